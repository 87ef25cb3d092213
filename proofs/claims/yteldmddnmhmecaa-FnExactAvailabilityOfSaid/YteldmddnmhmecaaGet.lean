/- Reading a datum out of an abstract value is sound. -/
import Derived.Test.YteldmddnmhmecaaSim
namespace Go.Proofs.Yteldmddnmhmecaa
open Go.RowKit

section
variable {P : Program} {A Wr : Nat → Prop} {μ : Nat → Value} {af : AF} {a : Act} {w : World} {ok2 : Nat → Prop}

theorem castT_some {t t' : Ty} {x : t.T} {y : t'.T} (h : castT t t' x = some y) : ∃ e : t = t', y = e ▸ x := by
  unfold castT at h
  split at h
  · rename_i e; exact ⟨e, by simpa using h.symm⟩
  · cases h

theorem RowsR.get {ok : Nat → Prop} {t : Ty} : ∀ {xs : List t.T} {cs : List Value}, RowsR P ok w t xs cs → ∀ i (h : i < xs.length), ∃ us, CR P ok w t xs[i] us ∧ ∀ (j : Nat) u, us[j]? = some u → cs[i * t.size + j]? = some u
  | [], _, _, i, h => by simp at h
  | x :: xs, _, hr, 0, _ => by
    obtain ⟨u1, u2, rfl, h1, _⟩ := hr
    refine ⟨u1, by simpa using h1, fun j u hu => ?_⟩
    have hj : j < u1.length := (List.getElem?_eq_some_iff.1 hu).1
    simp only [Nat.zero_mul, Nat.zero_add]
    rw [List.getElem?_append_left hj]; exact hu
  | x :: xs, _, hr, i + 1, h => by
    obtain ⟨u1, u2, rfl, h1, h2⟩ := hr
    obtain ⟨us, hc, hj⟩ := RowsR.get h2 i (by simpa using h)
    refine ⟨us, by simpa using hc, fun j u hu => ?_⟩
    have hl := CR.length t x u1 h1
    rw [List.getElem?_append_right (by rw [hl, Nat.add_mul]; omega), hl]
    have : (i + 1) * t.size + j - t.size = i * t.size + j := by rw [Nat.add_mul]; omega
    rw [this]; exact hj j u hu

theorem RowsR.length {ok : Nat → Prop} {t : Ty} : ∀ {xs : List t.T} {cs : List Value}, RowsR P ok w t xs cs → cs.length = xs.length * t.size
  | [], _, h => by have h : _ = _ := h; subst h; simp
  | x :: xs, _, h => by
    obtain ⟨u1, u2, rfl, h1, h2⟩ := h
    simp [RowsR.length h2, CR.length t x u1 h1, Nat.add_mul, Nat.add_comm]

/-- A slice's array of the call's own reads as data. -/
theorem arrCR {ok : Nat → Prop} {base : Nat} {e : TypeId} {t : Ty} {v : Value} {xs : List t.T} {cells : List Value} (h : w.ownsRow base e t.size v xs.length cells) (hr : RowsR P ok w t xs cells)
    (hk : ∀ b, b < w.heap.size → ok b → ok2 b) (hb : ∀ b, blk v = some b → ok2 b) : CR P ok2 w (.list t) xs [v] := by
  refine ⟨v, rfl, ?_⟩
  obtain ⟨hl, ⟨rfl, hn⟩ | ⟨g, cap, cur, rfl, _, hg, hcap, _, hcur, htake⟩⟩ := h
  · exact .inl ⟨List.length_eq_zero_iff.1 hn, none, 0, rfl⟩
  · refine .inr ⟨g, 0, cap, rfl, hb g rfl, (Array.getElem?_eq_some_iff.1 hg).1, hcap, fun i hi => ?_⟩
    obtain ⟨us, hc, hj⟩ := hr.get i hi
    refine ⟨us, fun j u hu => ?_, (REL.mono t _ (Agree.refl _ _) hk).1 _ hc⟩
    rw [cell_of_row w g _ cur e (0, 0) hg]
    have h2 := hj j u hu
    rw [← htake, List.getElem?_take] at h2
    split at h2
    · simpa using h2
    · cases h2

def OwnOk (μ : Nat → Value) (af : AF) (ok2 : Nat → Prop) : Prop := ∀ l o b, af.obj l = some o → blk (μ l) = some b → ok2 b

theorem sc_CR (hS : Sim P A Wr μ af a w) (h1 : ∀ b, okS A μ af b → ok2 b) {t : Ty} (ht : t.isAgg = false) {c : AV} {x : t.T} {u : Value} (h : sc af.objs t c = some x) (hv : VA P μ (okS A μ af) w c u)
    (h2 : c.owns = true → OwnOk μ af ok2) : CR P ok2 w t x [u] := by
  cases c with
  | dat t' y =>
    obtain ⟨e, rfl⟩ := castT_some h
    subst e
    have hv : VR P (okS A μ af) w t' y u := hv
    have := VR.mono hv (Agree.refl _ _) (ok' := ok2) (fun b _ hb => h1 b hb)
    simpa [VRof, ht] using this
  | nils =>
    have hv : u = .slice none 0 0 := hv
    subst hv
    cases t <;> simp only [sc] at h
    all_goals first | cases h | skip
    exact ⟨_, rfl, .inl ⟨rfl, none, 0, rfl⟩⟩
  | own l =>
    have hv : u = μ l := hv
    subst hv
    have ho : ∃ e t' xs, af.obj l = some (.arr e t' xs) ∧ castT (.list t') t xs = some x := by
      simp only [sc] at h
      split at h
      · rename_i e t' xs ho; exact ⟨e, t', xs, ho, h⟩
      · cases h
    obtain ⟨e, t', xs, ho, hc⟩ := ho
    obtain ⟨e1, rfl⟩ := castT_some hc
    subst e1
    obtain ⟨cells, h3, h4⟩ := hS.objs l _ ho
    exact arrCR h3 h4 (fun b _ hb => h1 b hb) (fun b hb => h2 rfl l _ b ho hb)
  | rptr t' y off =>
    simp only [sc] at h
    split at h
    · rename_i h0; subst h0
      obtain ⟨e1, rfl⟩ := castT_some h
      subst e1
      obtain ⟨b, o, us, rfl, hok, hlt, hm, hc⟩ := hv
      exact ⟨b, o, us, rfl, h1 b hok, hlt, hm, (REL.mono t' _ (Agree.refl _ _) (fun b _ hb => h1 b hb)).1 _ hc⟩
    · cases h
  | _ => simp [sc] at h

theorem sc_imp {objs : List (Option AO)} {t : Ty} {c : AV} {r : List AV} {x : t.T} {rest : List AV} (h : scr objs t c r = some (x, rest)) : sc objs t c = some x ∧ rest = r := by
  unfold scr at h
  split at h
  · rename_i y hy; simp at h; obtain ⟨rfl, rfl⟩ := h; exact ⟨hy, rfl⟩
  · cases h

theorem imp_CR (hS : Sim P A Wr μ af a w) (h1 : ∀ b, okS A μ af b → ok2 b) : ∀ (t : Ty) {cs : List AV} {x : t.T} {rest : List AV} {us : List Value}, imp af.objs t cs = some (x, rest) → VAs P μ (okS A μ af) w cs us →
    ((∃ c ∈ cs, c.owns = true) → OwnOk μ af ok2) → ∃ u1 u2 ds, us = u1 ++ u2 ∧ cs = ds ++ rest ∧ CR P ok2 w t x u1 ∧ VAs P μ (okS A μ af) w rest u2
  | .unit, cs, x, rest, us, h, hv, _ => by
    simp [imp] at h; subst h
    exact ⟨[], us, [], rfl, rfl, rfl, hv⟩
  | .pair ta tb, cs, x, rest, us, h, hv, h2 => by
    simp only [imp] at h
    split at h
    · rename_i y r hy
      split at h
      · rename_i z r' hz
        simp at h; obtain ⟨rfl, rfl⟩ := h
        obtain ⟨u1, u2, d1, rfl, rfl, c1, v1⟩ := imp_CR hS h1 ta hy hv h2
        obtain ⟨u3, u4, d2, rfl, rfl, c2, v2⟩ := imp_CR hS h1 tb hz v1 (fun ⟨c, hc, ho⟩ => h2 ⟨c, List.mem_append.2 (.inr hc), ho⟩)
        exact ⟨u1 ++ u3, u4, d1 ++ d2, by simp, by simp, ⟨u1, u3, rfl, c1, c2⟩, v2⟩
      · cases h
    · cases h
  | .int k, c :: r, x, rest, us, h, hv, h2 => by
    simp only [imp] at h
    obtain ⟨h3, rfl⟩ := sc_imp h
    obtain ⟨u, us', rfl, hc, hr⟩ := hv
    exact ⟨[u], us', [c], rfl, rfl, sc_CR hS h1 rfl h3 hc (fun ho => h2 ⟨c, by simp, ho⟩), hr⟩
  | .bool, c :: r, x, rest, us, h, hv, h2 => by
    simp only [imp] at h
    obtain ⟨h3, rfl⟩ := sc_imp h
    obtain ⟨u, us', rfl, hc, hr⟩ := hv
    exact ⟨[u], us', [c], rfl, rfl, sc_CR hS h1 rfl h3 hc (fun ho => h2 ⟨c, by simp, ho⟩), hr⟩
  | .str, c :: r, x, rest, us, h, hv, h2 => by
    simp only [imp] at h
    obtain ⟨h3, rfl⟩ := sc_imp h
    obtain ⟨u, us', rfl, hc, hr⟩ := hv
    exact ⟨[u], us', [c], rfl, rfl, sc_CR hS h1 rfl h3 hc (fun ho => h2 ⟨c, by simp, ho⟩), hr⟩
  | .list t, c :: r, x, rest, us, h, hv, h2 => by
    simp only [imp] at h
    obtain ⟨h3, rfl⟩ := sc_imp h
    obtain ⟨u, us', rfl, hc, hr⟩ := hv
    exact ⟨[u], us', [c], rfl, rfl, sc_CR hS h1 rfl h3 hc (fun ho => h2 ⟨c, by simp, ho⟩), hr⟩
  | .fn ta tb, c :: r, x, rest, us, h, hv, h2 => by
    simp only [imp] at h
    obtain ⟨h3, rfl⟩ := sc_imp h
    obtain ⟨u, us', rfl, hc, hr⟩ := hv
    exact ⟨[u], us', [c], rfl, rfl, sc_CR hS h1 rfl h3 hc (fun ho => h2 ⟨c, by simp, ho⟩), hr⟩
  | .ptr t, c :: r, x, rest, us, h, hv, h2 => by
    obtain ⟨u, us', rfl, hc, hr⟩ := hv
    have key : (∃ l off cs y r', c = .bptr l off ∧ af.obj l = some (.box cs) ∧ imp af.objs t (cs.drop off) = some (y, r') ∧ x = y ∧ rest = r) ∨ (sc af.objs (.ptr t) c = some x ∧ rest = r) := by
      simp only [imp] at h
      split at h
      · rename_i l off
        split at h
        · rename_i cs ho
          split at h
          · rename_i y r' hy; simp at h; exact .inl ⟨l, off, cs, y, r', rfl, ho, hy, h.1.symm, h.2.symm⟩
          · cases h
        · cases h
      · exact .inr (sc_imp h)
    rcases key with ⟨l, off, cs, y, r', rfl, ho, hy, rfl, rfl⟩ | ⟨h3, rfl⟩
    · obtain ⟨b, e, rfl⟩ := hc
      obtain ⟨b', us2, E, e', hg, hvs, _⟩ := hS.objs l _ ho
      have hbb : b = b' := by rw [e] at e'; simpa using e'
      subst hbb
      have hO := h2 ⟨.bptr l off, by simp, rfl⟩
      obtain ⟨u1, u2, ds, hus, _, hcr, _⟩ := imp_CR hS h1 t hy (hvs.drop off) (fun _ => hO)
      have hokb : ok2 b := hO l _ b ho (by rw [e]; rfl)
      refine ⟨[_], us', [_], rfl, rfl, ⟨b, off, u1, rfl, hokb, (Array.getElem?_eq_some_iff.1 hg).1, fun j u hu => ?_, hcr⟩, hr⟩
      rw [cell_of_row w b _ _ E (0, 0) hg]
      have : (us2.drop off)[j]? = some u := by
        rw [hus, List.getElem?_append_left (List.getElem?_eq_some_iff.1 hu).1]; exact hu
      simpa using this
    · exact ⟨[u], us', [c], rfl, rfl, sc_CR hS h1 rfl h3 hc (fun ho => h2 ⟨c, by simp, ho⟩), hr⟩
  | .int _, [], _, _, _, h, _, _ => by simp [imp] at h
  | .bool, [], _, _, _, h, _, _ => by simp [imp] at h
  | .str, [], _, _, _, h, _, _ => by simp [imp] at h
  | .list _, [], _, _, _, h, _, _ => by simp [imp] at h
  | .fn _ _, [], _, _, _, h, _, _ => by simp [imp] at h
  | .ptr _, [], _, _, _, h, _, _ => by simp [imp] at h

theorem owns_agg {cs : List AV} : (∃ c ∈ cs, c.owns = true) → (AV.agg cs).owns = true := by
  rintro ⟨c, hc, ho⟩
  simp only [AV.owns, List.any_eq_true]
  refine ⟨c, hc, ?_⟩
  cases c <;> simp_all [AV.owns]

theorem get0_VR (hS : Sim P A Wr μ af a w) (h1 : ∀ b, okS A μ af b → ok2 b) {t : Ty} {v : AV} {x : t.T} {u : Value} (h : v.get0 af.objs t = some x) (hv : VA P μ (okS A μ af) w v u)
    (h2 : v.owns = true → OwnOk μ af ok2) : VR P ok2 w t x u := by
  have gen : (if t.isAgg then none else match imp af.objs t [v] with | some (x, []) => some x | _ => none) = some x → VR P ok2 w t x u := by
    intro h
    split at h
    · cases h
    · rename_i hna
      split at h
      · rename_i y hy
        simp at h; subst h
        obtain ⟨u1, u2, ds, e, _, hc, hr⟩ := imp_CR hS h1 t hy (us := [u]) ⟨u, [], rfl, hv, rfl⟩ (fun ⟨c, hc, ho⟩ => h2 (by simp at hc; subst hc; exact ho))
        have hr : u2 = [] := hr
        subst hr
        simp at e; subst e
        simpa [VRof, hna] using hc
      · cases h
  cases v with
  | dat t' y =>
    obtain ⟨e, rfl⟩ := castT_some h
    subst e
    exact VR.mono hv (Agree.refl _ _) (fun b _ hb => h1 b hb)
  | agg cs =>
    simp only [AV.get0] at h
    split at h
    · rename_i ha
      split at h
      · rename_i y hy
        simp at h; subst h
        obtain ⟨us, rfl, hvs, _⟩ := hv
        obtain ⟨u1, u2, ds, rfl, _, hc, hr⟩ := imp_CR hS h1 t hy hvs (fun hc => h2 (owns_agg hc))
        have hr : u2 = [] := hr
        subst hr
        show VRof t _ _
        rw [VRof, if_pos ha]
        exact ⟨u1, by simp, hc⟩
      · cases h
    · cases h
  | _ => exact gen h

theorem getArgs0_AR (hS : Sim P A Wr μ af a w) (h1 : ∀ b, okS A μ af b → ok2 b) : ∀ (r : Ty) {vs : List AV} {x : r.T} {us : List Value}, getArgs0 af.objs r vs = some x → VAs P μ (okS A μ af) w vs us →
    (vs.any AV.owns = true → OwnOk μ af ok2) → AR P ok2 w r x us
  | .unit, [], x, us, _, hv, _ => by have hv : us = [] := hv; exact hv
  | .pair t r, v :: vs, x, us, h, hv, h2 => by
    obtain ⟨u, us', rfl, hc, hr⟩ := hv
    simp only [getArgs0] at h
    split at h
    · rename_i y hy
      split at h
      · rename_i z hz
        simp at h; subst h
        exact ⟨u, us', rfl, get0_VR hS h1 hy hc (fun ho => h2 (by simp [ho])), getArgs0_AR hS h1 r hz hr (fun ho => h2 (by simp only [List.any_cons, Bool.or_eq_true]; exact .inr ho))⟩
      · cases h
    · cases h
  | .unit, _ :: _, _, _, h, _, _ => by simp [getArgs0] at h
  | .pair _ _, [], _, _, h, _, _ => by simp [getArgs0] at h
  | .int _, _, _, _, h, _, _ => by simp [getArgs0] at h
  | .bool, _, _, _, h, _, _ => by simp [getArgs0] at h
  | .str, _, _, _, h, _, _ => by simp [getArgs0] at h
  | .list _, _, _, _, h, _, _ => by simp [getArgs0] at h
  | .fn _ _, _, _, _, h, _, _ => by simp [getArgs0] at h
  | .ptr _, _, _, _, h, _, _ => by simp [getArgs0] at h
end

/-- A slice of the call's own making. -/
def OwnV (P : Program) (okr : Nat → Prop) (base : Nat) (w : World) (e : TypeId) : (t : Ty) → t.T → Value → Prop
  | .list t, l, v => ∃ cells, w.ownsRow base e t.size v l.length cells ∧ RowsR P (fun b => okr b ∧ blk v ≠ some b) w t l cells
  | _, _, _ => False
def OwnAR (P : Program) (okr : Nat → Prop) (base : Nat) (w : World) (e : TypeId) : (r : Ty) → r.T → List Value → Prop
  | .pair t r, x, vs => ∃ v vs', vs = v :: vs' ∧ OwnV P okr base w e t x.1 v ∧ AR P (fun b => okr b ∧ blk v ≠ some b) w r x.2 vs'
  | _, _, _ => False

/-- What a call leaves, by its spec. -/
def SpecPost (P : Program) (s : Spec) (y : s.r.T) (ok : Nat → Prop) (w : World) (e : Ending) (w' : World) : Prop :=
  ∃ v, e = .returned v ∧ Keeps noB w w' ∧ ∃ rs, v = (if isOne s.r then rs.headD undef else .tuple rs.toArray) ∧
    match s.own with
    | none => AR P (fun b => (s.fresh = false ∧ ok b) ∨ w.heap.size ≤ b) w' s.r y rs
    | some e => OwnAR P (fun b => ok b ∨ w.heap.size ≤ b) w.heap.size w' e s.r y rs

/-- Function f does what its spec says. -/
def CallsOK (P : Program) (f : FuncId) (s : Spec) : Prop :=
  ∀ (w : World) (ok : Nat → Prop) (args : List Value) (x : s.a.T) (y : s.r.T), AR P ok w s.a x args → s.fn x = some y → Calls P f args.toArray w (SpecPost P s y ok w)

def FnOK (P : Program) (f : FuncId) (s : Spec) : Prop := EntersF P f ∧ CallsOK P f s

theorem AR_app {P : Program} {ok : Nat → Prop} {w : World} : ∀ (a c : Ty) (x : a.T) (y : c.T) (vs us : List Value), a.row = true → AR P ok w a x vs → AR P ok w c y us → AR P ok w (a.app c) (appT a c x y) (vs ++ us)
  | .unit, _, _, _, vs, us, _, h, h' => by have h : vs = [] := h; subst h; exact h'
  | .pair t r, c, x, y, vs, us, hr, h, h' => by
    obtain ⟨v, vs', rfl, h1, h2⟩ := h
    exact ⟨v, vs' ++ us, rfl, h1, AR_app r c x.2 y vs' us (by simpa [Ty.row] using hr) h2 h'⟩
  | .int _, _, _, _, _, _, hr, _, _ => by simp [Ty.row] at hr
  | .bool, _, _, _, _, _, hr, _, _ => by simp [Ty.row] at hr
  | .str, _, _, _, _, _, hr, _, _ => by simp [Ty.row] at hr
  | .list _, _, _, _, _, _, hr, _, _ => by simp [Ty.row] at hr
  | .fn _ _, _, _, _, _, _, hr, _, _ => by simp [Ty.row] at hr
  | .ptr _, _, _, _, _, _, hr, _, _ => by simp [Ty.row] at hr

section
variable {P : Program} {A Wr : Nat → Prop} {μ : Nat → Value} {af : AF} {a : Act} {w : World} {ok2 : Nat → Prop} {σ : FuncId → Option Spec}

theorem clo_CR {f : FuncId} {s : Spec} (hf : FnOK P f s) {pa c r : Ty} {y0 : c.T} {us : List Value} (hrow : pa.row = true) (hown : s.own = none) (e1 : pa.app c = s.a) (e2 : s.r = r) (hy : AR P ok2 w c y0 us) :
    CR P ok2 w (.fn pa r) (fun x => e2 ▸ s.fn (e1 ▸ appT pa c x y0)) [.func (.func f) #[] us.toArray] := by
  obtain ⟨sa, sr, fn, fresh, own⟩ := s
  simp only at e1 e2 hown
  subst e1 e2 hown
  refine ⟨f, us.toArray, rfl, hf.1, fun w' ok' ha hk args x y hx hxy => ?_⟩
  have h2 := (REL.mono c y0 ha hk).2 _ hy
  have h3 := AR_app pa c x y0 args us hrow hx h2
  have := hf.2 w' ok' (args ++ us) _ y h3 hxy
  rw [← List.append_toArray] at this
  refine this.mono fun e w'' hp => ?_
  obtain ⟨v, he, hkp, rs, hv, hr⟩ := hp
  exact ⟨v, he, hkp, rs, (REL.mono sr y (Agree.refl _ _) (fun b _ hb => hb.imp (fun h => h.2) id)).2 _ hr, hv⟩

theorem get1_VR (hS : Sim P A Wr μ af a w) (hσ : ∀ f s, σ f = some s → FnOK P f s) (h1 : ∀ b, okS A μ af b → ok2 b) {t : Ty} {v : AV} {x : t.T} {u : Value} (h : v.get1 σ af.objs t = some x) (hv : VA P μ (okS A μ af) w v u)
    (h2 : v.owns = true → OwnOk μ af ok2) : VR P ok2 w t x u := by
  cases v with
  | clo f caps =>
    obtain ⟨us, rfl, hvs⟩ := hv
    simp only [AV.get1] at h
    split at h
    · rename_i pa r
      split at h
      · rename_i s hs
        split at h
        · rename_i c hc
          split at h
          · rename_i y0 hy0
            split at h
            · rename_i hh
              simp at h; subst h
              obtain ⟨e1, e2, hown, hrow⟩ := hh
              have := getArgs0_AR hS h1 c hy0 hvs (fun _ => h2 rfl)
              have := clo_CR (hσ f s hs) hrow hown e1 e2 this
              simpa [VRof, Ty.isAgg] using this
            · cases h
          · cases h
        · cases h
      · cases h
    · cases h
  | _ => exact get0_VR hS h1 (by simpa only [AV.get1] using h) hv h2

theorem getArgs_AR (hS : Sim P A Wr μ af a w) (hσ : ∀ f s, σ f = some s → FnOK P f s) (h1 : ∀ b, okS A μ af b → ok2 b) : ∀ (r : Ty) {vs : List AV} {x : r.T} {us : List Value}, getArgs σ af.objs r vs = some x → VAs P μ (okS A μ af) w vs us →
    (vs.any AV.owns = true → OwnOk μ af ok2) → AR P ok2 w r x us
  | .unit, [], x, us, _, hv, _ => by have hv : us = [] := hv; exact hv
  | .pair t r, v :: vs, x, us, h, hv, h2 => by
    obtain ⟨u, us', rfl, hc, hr⟩ := hv
    simp only [getArgs] at h
    split at h
    · rename_i y hy
      split at h
      · rename_i z hz
        simp at h; subst h
        exact ⟨u, us', rfl, get1_VR hS hσ h1 hy hc (fun ho => h2 (by simp [ho])), getArgs_AR hS hσ h1 r hz hr (fun ho => h2 (by simp only [List.any_cons, Bool.or_eq_true]; exact .inr ho))⟩
      · cases h
    · cases h
  | .unit, _ :: _, _, _, h, _, _ => by simp [getArgs] at h
  | .pair _ _, [], _, _, h, _, _ => by simp [getArgs] at h
  | .int _, _, _, _, h, _, _ => by simp [getArgs] at h
  | .bool, _, _, _, h, _, _ => by simp [getArgs] at h
  | .str, _, _, _, h, _, _ => by simp [getArgs] at h
  | .list _, _, _, _, h, _, _ => by simp [getArgs] at h
  | .fn _ _, _, _, _, h, _, _ => by simp [getArgs] at h
  | .ptr _, _, _, _, h, _, _ => by simp [getArgs] at h
end
end Go.Proofs.Yteldmddnmhmecaa
