/- Code and functions: what the interpreter says, the model does. -/
import Derived.Test.YteldmddnmhmecaaDraw
import Derived.Deep.LoopGhost
namespace Go.Proofs.Yteldmddnmhmecaa
open Go.RowKit

section
variable {P : Program} {A Wr : Nat → Prop} {μ : Nat → Value} {af : AF} {a : Act} {w w0 : World} {Γ : Tab} {E : Elems} {R : Type} {σ : FuncId → Option Spec} {Λ : Nat → Option LSpec} {n : Nat}

theorem Sim.know (hS : Sim P A Wr μ af a w) {d : Nat} {t : Bool} (h : af.get d = .dat .bool t) : Sim P A Wr μ (af.know d t) a w := by
  refine ⟨hS.defers, by simp [AF.know, AF.put, hS.tl], ?_, hS.objs, hS.wr, hS.inj, hS.fr⟩
  intro s x hx
  show VA P μ (okS A μ af) w x _
  simp only [AF.know, AF.put] at hx
  by_cases hd : d = s
  · subst hd
    have hlt : d < af.tmps.length := by have := (List.getElem?_eq_some_iff.1 hx).1; simpa using this
    rw [List.getElem?_set_self hlt] at hx
    simp at hx; subst hx
    have := get_VA hS d
    rwa [h] at this
  · rw [List.getElem?_set_ne hd] at hx
    exact hS.tmps s x hx

theorem St.know (hst : St P A Wr w0 af a w) {d : Nat} {t : Bool} (h : af.get d = .dat .bool t) : St P A Wr w0 (af.know d t) a w :=
  let ⟨hK, μ, hS⟩ := hst; ⟨hK, μ, hS.know h⟩

theorem St.bool (hst : St P A Wr w0 af a w) {d : Nat} {t : Bool} (h : af.get d = .dat .bool t) : a.tmps.getD d undef = .bool t := by
  obtain ⟨_, μ, hS⟩ := hst
  have := get_VA hS d
  rw [h, VA_bool] at this
  exact this

theorem St.junk (hst : St P A Wr w0 af a w) (d : Option Tmp) (u : Value) : St P A Wr w0 (af.put d .junk) (a.put d u) w := by
  obtain ⟨hK, μ, hS⟩ := hst
  exact St.put hK hS d trivial

theorem yielded_of {all : Array Oper} {j d : Nat} {t : Bool} (hj : (all[j]?).bind (·.dst) = some d) (h : a.tmps.getD d undef = .bool t) : yielded all a.tmps j = some t := by
  have : a.tmps[d]? = some (.bool t) := by
    cases hh : a.tmps[d]? with
    | none =>
      have : a.tmps.getD d undef = undef := by simp [hh]
      rw [this] at h; simp [undef] at h
    | some u => have : a.tmps.getD d undef = u := by simp [hh]
                rw [this] at h; rw [h]
  simp [yielded, hj, this]

theorem yielded_none {all : Array Oper} {j d : Nat} (hj : (all[j]?).bind (·.dst) = some d) (h : a.tmps.getD d undef = undef) : yielded all a.tmps j = none := by
  unfold yielded
  rw [hj]
  simp only [Option.bind_some]
  cases hh : a.tmps[d]? with
  | none => rfl
  | some u =>
    have : a.tmps.getD d undef = u := by simp [hh]
    rw [this] at h; rw [h]; rfl

theorem St.undef' (hst : St P A Wr w0 af a w) {d : Nat} (h : af.get d = .tup []) : a.tmps.getD d undef = undef := by
  obtain ⟨_, μ, hS⟩ := hst
  have := get_VA hS d
  rw [h] at this
  obtain ⟨us, e, hv⟩ := this
  have hv : us = [] := hv
  subst hv
  exact e

theorem St.undef (hst : St P A Wr w0 af a w) (d : Option Tmp) : St P A Wr w0 (af.put d (.tup [])) (a.put d Go.undef) w := by
  obtain ⟨hK, μ, hS⟩ := hst
  exact St.put hK hS d ⟨[], rfl, rfl⟩

theorem opsK_ok (hT : tabB P Γ E = true) (hσ : ∀ f s, σ f = some s → FnOK P f s) {all : Array Oper} {K : AF → Option R} {r : R} {Q : Exit → Act → World → Prop} (hQ : ∀ a w, PK P A Wr w0 K r a w → Q .normal a w) :
    ∀ (rest : List Oper) {af : AF} {a : Act} {w : World}, St P A Wr w0 af a w → opsK Γ E σ all rest af K = some r → wpList P all Q rest a w
  | [], _, _, _, hst, h => wpList_nil (hQ _ _ ⟨_, h, hst⟩)
  | o :: rest, af, a, w, hst, h => by
    refine wpList_step fun N hN => ?_
    have run : ∀ {af' : AF}, St P A Wr w0 af' a w → opK Γ E σ o af' (fun af' => opsK Γ E σ all rest af' K) = some r → o.wp P a w N Q := fun hst' h' =>
      opK_ok hT hσ hst' h' fun a' w' ⟨af2, h2, hst2⟩ => hN _ _ (opsK_ok hT hσ hQ rest hst2 h2)
    have skip : ∀ {af' : AF}, St P A Wr w0 af' a w → opsK Γ E σ all rest (af'.put o.dst (.tup [])) K = some r → N (a.put o.dst Go.undef) w := fun hst' h' =>
      hN _ _ (opsK_ok hT hσ hQ rest (hst'.undef o.dst) h')
    unfold opsK at h
    split at h
    · rename_i hg
      rw [if_pos (by simp [Region.wanted, hg])]
      exact run hst h
    · rename_i j want hg
      split at h
      · cases h
      · rename_i d hd
        split at h
        · rename_i ht
          have hy := yielded_none hd (hst.undef' ht)
          have hw : Region.wanted o (yielded all a.tmps) = false := by simp [Region.wanted, hg, hy]
          rw [hw, if_neg (by decide)]
          exact skip hst h
        · rename_i t ht
          have hy := yielded_of hd (hst.bool ht)
          have hw : Region.wanted o (yielded all a.tmps) = (some t == some want) := by simp [Region.wanted, hg, hy]
          rw [hw]
          split at h
          · cases want with
            | true => rw [if_pos (by decide)]; rw [if_pos rfl] at h; exact run (hst.know ht) h
            | false => rw [if_neg (by decide)]; rw [if_neg (by decide)] at h; exact skip (hst.know ht) h
          · cases want with
            | true => rw [if_neg (by decide)]; rw [if_pos rfl] at h; exact skip (hst.know ht) h
            | false => rw [if_pos (by decide)]; rw [if_neg (by decide)] at h; exact run (hst.know ht) h
        · cases h

/-- What is wanted of an operation of a region: its guard. -/
theorem oneK_split {all : Array Oper} {o : Oper} {K : AF → Option R} {r : R} (hst : St P A Wr w0 af a w) (h : oneK Γ E σ all o af K = some r) :
    (Region.wanted o (yielded all a.tmps) = true ∧ ∃ af', St P A Wr w0 af' a w ∧ (af' = af ∨ ∃ d t, af.get d = .dat .bool t ∧ af' = af.know d t) ∧ opK Γ E σ o af' K = some r) ∨
    (Region.wanted o (yielded all a.tmps) = false ∧ ∃ af', St P A Wr w0 af' a w ∧ (af' = af ∨ ∃ d t, af.get d = .dat .bool t ∧ af' = af.know d t) ∧ K (af'.put o.dst (.tup [])) = some r) := by
  unfold oneK at h
  split at h
  · rename_i hg
    exact .inl ⟨by simp [Region.wanted, hg], af, hst, .inl rfl, h⟩
  · rename_i j want hg
    split at h
    · cases h
    · rename_i d hd
      split at h
      · rename_i ht
        have hy := yielded_none hd (hst.undef' ht)
        exact .inr ⟨by simp [Region.wanted, hg, hy], af, hst, .inl rfl, h⟩
      · rename_i t ht
        have hy := yielded_of hd (hst.bool ht)
        have hw : Region.wanted o (yielded all a.tmps) = (some t == some want) := by simp [Region.wanted, hg, hy]
        split at h
        · cases want with
          | true => rw [if_pos rfl] at h; exact .inl ⟨by rw [hw]; rfl, _, hst.know ht, .inr ⟨d, _, ht, rfl⟩, h⟩
          | false => rw [if_neg (by decide)] at h; exact .inr ⟨by rw [hw]; rfl, _, hst.know ht, .inr ⟨d, _, ht, rfl⟩, h⟩
        · cases want with
          | true => rw [if_pos rfl] at h; exact .inr ⟨by rw [hw]; rfl, _, hst.know ht, .inr ⟨d, _, ht, rfl⟩, h⟩
          | false => rw [if_neg (by decide)] at h; exact .inl ⟨by rw [hw]; rfl, _, hst.know ht, .inr ⟨d, _, ht, rfl⟩, h⟩
      · cases h

theorem obj_know (d : Nat) (t : Bool) (l : Nat) : (af.know d t).obj l = af.obj l := rfl
theorem stillB_know {d : Nat} {t fresh : Bool} {o : Oper} (hd : af.get d = .dat .bool t) (h : stillB af fresh o = true) : stillB (af.know d t) fresh o = true := by
  have hev : ∀ s, (af.know d t).get s = af.get s := by
    intro s
    by_cases hds : d = s
    · subst hds
      rw [hd]
      unfold AF.know AF.put AF.get
      simp only [List.getD, List.getElem?_set, if_true]
      unfold AF.get at hd
      split
      · rfl
      · rename_i hn
        simp only [List.getD, List.getElem?_eq_none (Nat.not_lt.1 hn)] at hd
        cases hd
    · unfold AF.know AF.put AF.get
      simp only [List.getD, List.getElem?_set]
      rw [if_neg hds]
  obtain ⟨dst, op, ty, pos, after, guard⟩ := o
  cases op with
  | load id p =>
    have : (af.know d t).ev p = af.ev p := by
      cases p with
      | tmp s => exact hev s
      | _ => rfl
    simp only [stillB] at h ⊢
    rw [this]; exact h
  | _ => first | rfl | exact h

/-- A region whose operations come up in whatever order. S: what was there when it began, but for the call's own live objects, is as it was. -/
theorem drawK_in (hT : tabB P Γ E = true) (hσ : ∀ f s, σ f = some s → FnOK P f s) {all : Array Oper} (hsel : Region.noSelect all = true) {K : AF → Option R} {r : R} {Q : Exit → Act → World → Prop} (hQ : ∀ a w, PK P A Wr w0 K r a w → Q .normal a w)
    (hp : ∀ c a w, ¬ Q (.panic c) a w) : ∀ (fuel : Nat) (fresh : Bool) (listed : Array Bool) {af : AF} {a : Act} {w : World} {μ : Nat → Value}, Keeps Wr w0 w → Sim P A Wr μ af a w → (fresh = true → w = w0 ∧ ∀ b, okS A μ af b → b < w0.heap.size → ¬ Wr b) →
      drawK Γ E σ all fuel fresh listed af K = some r → wpAnyH P .any all Q (Keeps Wr w0) fuel listed a w
  | 0, fresh, listed, af, a, w, μ, hK, hS, hf, h => by
    unfold drawK at h
    split at h
    · rename_i hr; exact ⟨hr, hQ _ _ ⟨af, h, hK, μ, hS⟩⟩
    · cases h
  | fuel + 1, fresh, listed, af, a, w, μ, hK, hS, hf, h => by
    unfold drawK at h
    split at h
    · rename_i hr; exact wpAnyH_done hr (hQ _ _ ⟨af, h, hK, μ, hS⟩) _
    · rename_i i rs hr
      split at h
      · rename_i j hj
        have hmem : j ∈ Region.ready .any all listed := by rw [hr]; exact List.mem_of_find?_eq_some hj
        have hpj := List.find?_some hj
        simp only [Bool.and_eq_true] at hpj
        obtain ⟨hst, hfree⟩ := hpj
        split at h
        · rename_i o ho
          have hst : stillB af fresh o = true := by simpa [stillAt, ho] using hst
          have hc : (Region.ready .any all listed).contains j = true := by simpa using hmem
          rcases oneK_split ⟨hK, μ, hS⟩ h with ⟨hw, af', _, ha, h⟩ | ⟨hw, af', _, ha, h⟩
          · have hS' : Sim P A Wr μ af' a w := by
              rcases ha with rfl | ⟨d, t, hd, rfl⟩
              · exact hS
              · exact hS.know hd
            have hst' : stillB af' fresh o = true := by
              rcases ha with rfl | ⟨d, t, hd, rfl⟩
              · exact hst
              · exact stillB_know hd hst
            have hok : okS A μ af' = okS A μ af := by
              rcases ha with rfl | ⟨d, t, hd, rfl⟩ <;> rfl
            obtain ⟨v, u, hrun, hv, hk⟩ := still_ok hT hS' (S := Keeps Wr w0) (fresh := fresh) (fun hfr w' hw' b hb hlt => by
              obtain ⟨rfl, hnw⟩ := hf hfr
              exact hw'.block b hlt (hnw b (hok ▸ hb) hlt)) hst' h
            exact wpAnyH_take ho hsel hfree hc (fun c a w h => absurd h (hp c _ w)) (.inl ⟨hw, hrun⟩) hK
              (drawK_in hT hσ hsel hQ hp fuel fresh _ hK (hS'.put o.dst hv) (fun hfr => ⟨(hf hfr).1, fun b hb => (hf hfr).2 b (by rw [okS_put, hok] at hb; exact hb)⟩) hk)
          · have hS' : Sim P A Wr μ af' a w := by
              rcases ha with rfl | ⟨d, t, hd, rfl⟩
              · exact hS
              · exact hS.know hd
            have hok : okS A μ af' = okS A μ af := by
              rcases ha with rfl | ⟨d, t, hd, rfl⟩ <;> rfl
            exact wpAnyH_take ho hsel hfree hc (fun c a w h => absurd h (hp c _ w)) (.inr ⟨hw, rfl⟩) hK
              (drawK_in hT hσ hsel hQ hp fuel fresh _ hK (hS'.put o.dst (v := .tup []) ⟨[], rfl, rfl⟩) (fun hfr => ⟨(hf hfr).1, fun b hb => (hf hfr).2 b (by rw [okS_put, hok] at hb; exact hb)⟩) h)
        · cases h
      · split at h
        · split at h
          · rename_i o ho
            refine wpAnyH_all hr (by simp) fun j hj => ?_
            obtain rfl : j = i := by simpa using hj
            have go : ∀ {af' : AF} {a' : Act} {w' : World}, drawK Γ E σ all fuel false (listed.setIfInBounds j true) af' K = some r → St P A Wr w0 af' a' w' → Keeps Wr w0 w' ∧ wpAnyH P .any all Q (Keeps Wr w0) fuel (listed.setIfInBounds j true) a' w' :=
              fun h ⟨hK', μ', hS'⟩ => ⟨hK', drawK_in hT hσ hsel hQ hp fuel false _ hK' hS' (fun h => by cases h) h⟩
            unfold wpOp
            simp only [ho]
            rcases oneK_split ⟨hK, μ, hS⟩ h with ⟨hw, af', hst, _, h⟩ | ⟨hw, af', hst, _, h⟩
            · rw [if_pos hw]
              exact .inl (opK_ok hT hσ hst h fun a' w' ⟨af2, h2, hst2⟩ => go h2 hst2)
            · rw [hw, if_neg (by decide)]
              exact go h (hst.undef o.dst)
          · cases h
        · cases h

/-- The same, from whatever world a call began with. -/
theorem drawK_ok (hT : tabB P Γ E = true) (hσ : ∀ f s, σ f = some s → FnOK P f s) {id : Nat} {all : Array Oper} (hsel : Region.noSelect all = true) {K : AF → Option R} {r : R} {Q : Exit → Act → World → Prop} (hQ : ∀ a w, PK P A Wr w0 K r a w → Q .normal a w)
    (hp : ∀ c a w, ¬ Q (.panic c) a w) (hst : St P A Wr w0 af a w) (h : drawK Γ E σ all all.size true (Array.replicate all.size false) (freezeFor all.toList af) K = some r) : (Code.region id all true).wp P Q a w := by
  obtain ⟨hK, μ, hS⟩ := hst
  have hS := hS.freezeFor all.toList
  generalize freezeFor all.toList af = af1 at hS h
  refine wp_region_held (S := Keeps (fun b => (∃ l o, af1.obj l = some o ∧ blk (μ l) = some b) ∨ w.heap.size ≤ b) { w with drawn := w.drawn + 1 }) (tab_mixed hT) ?_
  have hS1 : Sim P A (fun b => (∃ l o, af1.obj l = some o ∧ blk (μ l) = some b) ∨ w.heap.size ≤ b) μ af1 a { w with drawn := w.drawn + 1 } := by
    have hag : Agree (okS A μ af1) w { w with drawn := w.drawn + 1 } := ⟨Nat.le_refl _, fun _ _ _ => rfl⟩
    refine ⟨hS.defers, hS.tl, fun t x hx => (hS.tmps t x hx).trans (fun _ _ => rfl) hag (fun _ _ h => h), fun l o ho => ?_, fun l o b ho hb => ⟨.inl ⟨l, o, ho, hb⟩, (hS.wr l o b ho hb).2⟩, hS.inj, fun b hb => ⟨(hS.fr b hb).1, .inr hb⟩⟩
    exact (hS.objs l o ho).trans rfl (fun _ _ => rfl) hag (fun _ _ h => h) (fun _ _ => rfl)
  refine drawK_in hT hσ hsel (fun a' w' hpk => hQ a' w' ?_) hp _ _ _ (Keeps.refl _ _) hS1 (fun _ => ⟨rfl, fun b hb hlt hw => ?_⟩) h
  · obtain ⟨af', h', hK', μ', hS'⟩ := hpk
    have hwr : ∀ b, (∃ l o, af1.obj l = some o ∧ blk (μ l) = some b) ∨ w.heap.size ≤ b → Wr b := by
      rintro b (⟨l, o, ho, hb⟩ | hb)
      · exact (hS.wr l o b ho hb).1
      · exact (hS.fr b hb).2
    refine ⟨af', h', (hK.drew).trans (hK'.mono fun k _ hk => hwr k hk), μ', hS'.defers, hS'.tl, hS'.tmps, hS'.objs, fun l o b ho hb => ?_, hS'.inj, fun b hb => ⟨(hS'.fr b hb).1, hwr b (hS'.fr b hb).2⟩⟩
    exact ⟨hwr b (hS'.wr l o b ho hb).1, (hS'.wr l o b ho hb).2⟩
  · rcases hw with ⟨l, o, ho, hbl⟩ | hw
    · exact hb.2 l o ho hbl
    · exact absurd hw (Nat.not_le.2 hlt)

/-! ### Loops: what is handed on -/

def HasTmp : (ls : List (Nat × Live)) → (liveTy ls).T → Nat → AV → Prop
  | [], _, _, v => v = .junk
  | (s, .val t) :: r, x, m, v => (m = s ∧ v = .dat t x.1) ∨ HasTmp r x.2 m v
  | (s, .arr _ _) :: r, x, m, v => (m = s ∧ v = .own s) ∨ HasTmp r x.2 m v
  | (s, .box _) :: r, x, m, v => (m = s ∧ v = .bptr s 0) ∨ HasTmp r x.2 m v
def HasObj : (ls : List (Nat × Live)) → (liveTy ls).T → Nat → AO → Prop
  | [], _, _, _ => False
  | (_, .val _) :: r, x, m, o => HasObj r x.2 m o
  | (s, .arr e t) :: r, x, m, o => (m = s ∧ o = .arr e t x.1) ∨ HasObj r x.2 m o
  | (s, .box t) :: r, x, m, o => (m = s ∧ o = .box (expl t x.1)) ∨ HasObj r x.2 m o

theorem mkF_len (n : Nat) : ∀ (ls : List (Nat × Live)) (x : (liveTy ls).T), (mkF n ls x).tmps.length = n ∧ (mkF n ls x).objs.length = n
  | [], _ => by simp [mkF, AF.blank]
  | (s, .val t) :: r, x => by have := mkF_len n r x.2; simpa [mkF, AF.put] using this
  | (s, .arr _ _) :: r, x => by have := mkF_len n r x.2; simpa [mkF, AF.put, AF.putObj] using this
  | (s, .box _) :: r, x => by have := mkF_len n r x.2; simpa [mkF, AF.put, AF.putObj] using this

theorem put_tmp {s m : Nat} {v u : AV} (h : (af.put (some s) v).tmps[m]? = some u) : (m = s ∧ u = v) ∨ af.tmps[m]? = some u := by
  simp only [AF.put] at h
  by_cases hs : s = m
  · subst hs
    have hlt : s < af.tmps.length := by have := (List.getElem?_eq_some_iff.1 h).1; simpa using this
    rw [List.getElem?_set_self hlt] at h
    simp at h
    exact .inl ⟨rfl, h.symm⟩
  · rw [List.getElem?_set_ne hs] at h; exact .inr h
theorem putObj_obj {s m : Nat} {o o' : AO} (h : (af.putObj s (some o)).obj m = some o') : (m = s ∧ o' = o) ∨ af.obj m = some o' := by
  unfold AF.putObj AF.obj at h
  simp only [List.getD, List.getElem?_set] at h
  by_cases hs : s = m
  · subst hs
    simp only [if_true] at h
    split at h
    · simp at h; exact .inl ⟨rfl, h.symm⟩
    · simp at h
  · simp only [hs, if_false] at h
    exact .inr h

theorem mkF_tmp (n : Nat) : ∀ (ls : List (Nat × Live)) (x : (liveTy ls).T) {m : Nat} {v : AV}, (mkF n ls x).tmps[m]? = some v → HasTmp ls x m v
  | [], _, m, v, h => by
    simp only [mkF, AF.blank, List.getElem?_replicate] at h
    split at h
    · simp at h; exact h.symm
    · cases h
  | (s, .val t) :: r, x, m, v, h => (put_tmp h).imp id (mkF_tmp n r x.2)
  | (s, .arr _ _) :: r, x, m, v, h => (put_tmp (af := mkF n r x.2) h).imp id (mkF_tmp n r x.2)
  | (s, .box _) :: r, x, m, v, h => (put_tmp (af := mkF n r x.2) h).imp id (mkF_tmp n r x.2)
theorem mkF_obj (n : Nat) : ∀ (ls : List (Nat × Live)) (x : (liveTy ls).T) {m : Nat} {o : AO}, (mkF n ls x).obj m = some o → HasObj ls x m o
  | [], _, m, o, h => by
    simp only [mkF, AF.blank, AF.obj, List.getD, List.getElem?_replicate] at h
    split at h <;> simp at h
  | (s, .val t) :: r, x, m, o, h => mkF_obj n r x.2 (by rwa [mkF, obj_put] at h)
  | (s, .arr _ _) :: r, x, m, o, h => (putObj_obj h).imp id fun h => mkF_obj n r x.2 (by rwa [obj_put] at h)
  | (s, .box _) :: r, x, m, o, h => (putObj_obj h).imp id fun h => mkF_obj n r x.2 (by rwa [obj_put] at h)

/-- The names of the objects that are handed on. -/
def muL (μ : Nat → Value) (af : AF) (s : Nat) : Value := match af.get s with
  | .own l => μ l
  | .bptr l _ => μ l
  | .nils => .slice none 0 0
  | _ => undef

/-- What reading says of an object that is handed on. -/
def ObjOf (af : AF) (s : Nat) (o : AO) : Prop :=
  (∃ l e t xs, af.get s = .own l ∧ af.obj l = some (.arr e t xs) ∧ o = .arr e t xs) ∨
  (∃ l t cs x, af.get s = .bptr l 0 ∧ af.obj l = some (.box cs) ∧ cs.any AV.owns = false ∧ imp af.objs t cs = some (x, []) ∧ o = .box (expl t x)) ∨
  (∃ e t, af.get s = .nils ∧ o = .arr e t [])

theorem rdF_obj : ∀ (ls : List (Nat × Live)) {x : (liveTy ls).T}, rdF af ls = some x → ∀ {m : Nat} {o : AO}, HasObj ls x m o → ObjOf af m o
  | (s, .val t) :: r, x, h, m, o, ho => by
    unfold rdF at h
    split at h
    · cases h
    · split at h
      · split at h
        · rename_i hr; obtain rfl := Option.some.inj h; exact rdF_obj r hr ho
        · cases h
      · cases h
  | (s, .arr e t) :: r, x, h, m, o, ho => by
    unfold rdF at h
    split at h
    · rename_i l hl
      split at h
      · rename_i e' t' xs hob
        split at h
        · rename_i he
          split at h
          · rename_i y hy
            split at h
            · rename_i hr
              obtain rfl := Option.some.inj h
              rcases ho with ⟨rfl, rfl⟩ | ho
              · obtain ⟨e1, e2⟩ := castT_some hy
                simp at e1
                subst e1 he
                simp only at e2
                rw [e2]
                exact .inl ⟨l, _, _, xs, hl, hob, rfl⟩
              · exact rdF_obj r hr ho
            · cases h
          · cases h
        · cases h
      · cases h
    · rename_i hl
      split at h
      · rename_i hr
        obtain rfl := Option.some.inj h
        rcases ho with ⟨rfl, rfl⟩ | ho
        · exact .inr (.inr ⟨_, _, hl, rfl⟩)
        · exact rdF_obj r hr ho
      · cases h
    · cases h
  | (s, .box t) :: r, x, h, m, o, ho => by
    unfold rdF at h
    split at h
    · rename_i l off hl
      split at h
      · rename_i h0
        split at h
        · rename_i cs hob
          split at h
          · cases h
          · rename_i hno
            split at h
            · rename_i y hy
              split at h
              · rename_i hr
                obtain rfl := Option.some.inj h
                rcases ho with ⟨rfl, rfl⟩ | ho
                · subst h0
                  exact .inr (.inl ⟨l, t, cs, y, hl, hob, by simpa using hno, hy, rfl⟩)
                · exact rdF_obj r hr ho
              · cases h
            · cases h
        · cases h
      · cases h
    · cases h
  | [], _, _, _, _, ho => ho.elim

theorem HasObj.lab : ∀ (ls : List (Nat × Live)) {x : (liveTy ls).T} {m : Nat} {o : AO}, HasObj ls x m o → af.lab m ∈ liveLabels af ls
  | (s, .val t) :: r, x, m, o, h => HasObj.lab r h
  | (s, .arr _ _) :: r, x, m, o, h => by
    rcases h with ⟨rfl, _⟩ | h
    · simp [liveLabels]
    · simp only [liveLabels, List.mem_cons]; exact .inr (HasObj.lab r h)
  | (s, .box _) :: r, x, m, o, h => by
    rcases h with ⟨rfl, _⟩ | h
    · simp [liveLabels]
    · simp only [liveLabels, List.mem_cons]; exact .inr (HasObj.lab r h)
theorem HasObj.inj : ∀ (ls : List (Nat × Live)) {x : (liveTy ls).T} {m m' : Nat} {o o' : AO}, nodupB (liveLabels af ls) = true → HasObj ls x m o → HasObj ls x m' o' → af.lab m = af.lab m' → m = m'
  | (s, .val t) :: r, x, _, _, _, _, hn, h, h', e => HasObj.inj r hn h h' e
  | (s, .arr _ _) :: r, x, _, _, _, _, hn, h, h', e => by
    simp only [liveLabels, nodupB, Bool.and_eq_true] at hn
    rcases h with ⟨rfl, _⟩ | h <;> rcases h' with ⟨rfl, _⟩ | h'
    · rfl
    · have := HasObj.lab (af := af) r h'; rw [← e] at this; simp [this] at hn
    · have := HasObj.lab (af := af) r h; rw [e] at this; simp [this] at hn
    · exact HasObj.inj r hn.2 h h' e
  | (s, .box _) :: r, x, _, _, _, _, hn, h, h', e => by
    simp only [liveLabels, nodupB, Bool.and_eq_true] at hn
    rcases h with ⟨rfl, _⟩ | h <;> rcases h' with ⟨rfl, _⟩ | h'
    · rfl
    · have := HasObj.lab (af := af) r h'; rw [← e] at this; simp [this] at hn
    · have := HasObj.lab (af := af) r h; rw [e] at this; simp [this] at hn
    · exact HasObj.inj r hn.2 h h' e

theorem ObjOf.live {s b : Nat} {o : AO} (h : ObjOf af s o) (hb : blk (muL μ af s) = some b) : ∃ o', af.obj (af.lab s) = some o' ∧ muL μ af s = μ (af.lab s) := by
  rcases h with ⟨l, e, t, xs, h1, h2, _⟩ | ⟨l, t, cs, x, h1, h2, _⟩ | ⟨e, t, h1, _⟩
  · exact ⟨_, by simp only [AF.lab, h1]; exact h2, by simp [AF.lab, muL, h1]⟩
  · exact ⟨_, by simp only [AF.lab, h1]; exact h2, by simp [AF.lab, muL, h1]⟩
  · simp [muL, h1, blk] at hb

theorem rdF_tmp (hS : Sim P A Wr μ af a w) {ok' : Nat → Prop} (hok : ∀ b, okS A μ af b → ok' b) : ∀ (ls : List (Nat × Live)) {x : (liveTy ls).T}, rdF af ls = some x → ∀ {m : Nat} {v : AV}, HasTmp ls x m v → VA P (muL μ af) ok' w v (a.tmps.getD m undef)
  | (s, .val t) :: r, x, h, m, v, hv => by
    unfold rdF at h
    split at h
    · cases h
    · rename_i hno
      split at h
      · rename_i y hy
        split at h
        · rename_i hr
          obtain rfl := Option.some.inj h
          rcases hv with ⟨rfl, rfl⟩ | hv
          · exact get0_VR hS hok hy (get_VA hS m) (fun ho => absurd ho hno)
          · exact rdF_tmp hS hok r hr hv
        · cases h
      · cases h
  | (s, .arr e t) :: r, x, h, m, v, hv => by
    unfold rdF at h
    split at h
    · rename_i l hl
      split at h
      · split at h
        · split at h
          · split at h
            · rename_i hr
              obtain rfl := Option.some.inj h
              rcases hv with ⟨rfl, rfl⟩ | hv
              · have := get_VA hS m
                rw [hl] at this
                have this : a.tmps.getD m undef = μ l := this
                show _ = muL μ af m
                rw [this]; simp [muL, hl]
              · exact rdF_tmp hS hok r hr hv
            · cases h
          · cases h
        · cases h
      · cases h
    · rename_i hl
      split at h
      · rename_i hr
        obtain rfl := Option.some.inj h
        rcases hv with ⟨rfl, rfl⟩ | hv
        · have := get_VA hS m
          rw [hl] at this
          have this : a.tmps.getD m undef = .slice none 0 0 := this
          show _ = muL μ af m
          rw [this]; simp [muL, hl]
        · exact rdF_tmp hS hok r hr hv
      · cases h
    · cases h
  | (s, .box t) :: r, x, h, m, v, hv => by
    unfold rdF at h
    split at h
    · rename_i l off hl
      split at h
      · rename_i h0
        split at h
        · split at h
          · cases h
          · split at h
            · split at h
              · rename_i hr
                obtain rfl := Option.some.inj h
                rcases hv with ⟨rfl, rfl⟩ | hv
                · have := get_VA hS m
                  rw [hl, h0] at this
                  obtain ⟨b, h1, h2⟩ := this
                  exact ⟨b, by simp only [muL, hl]; exact h1, h2⟩
                · exact rdF_tmp hS hok r hr hv
              · cases h
            · cases h
        · cases h
      · cases h
    · cases h
  | [], _, _, _, _, hv => by have hv : _ = AV.junk := hv; subst hv; trivial

/-- What has been read stands in a frame of its own. -/
theorem Sim.read (hS : Sim P A Wr μ af a w) {ls : List (Nat × Live)} {x : (liveTy ls).T} (h : rdL n af ls = some x) : Sim P A Wr (muL μ af) (mkF n ls x) a w := by
  unfold rdL at h
  split at h
  · rename_i hc
    simp only [Bool.and_eq_true, decide_eq_true_eq] at hc
    obtain ⟨hlen, hnd⟩ := hc
    have hob : ∀ m o, (mkF n ls x).obj m = some o → ObjOf af m o := fun m o ho => rdF_obj ls h (mkF_obj n ls x ho)
    have hok : ∀ b, okS A μ af b → okS A (muL μ af) (mkF n ls x) b := by
      rintro b ⟨h1, h2⟩
      refine ⟨h1, fun m o ho hbm => ?_⟩
      obtain ⟨o', h3, h4⟩ := (hob m o ho).live (μ := μ) hbm
      rw [h4] at hbm; exact h2 _ o' h3 hbm
    refine ⟨hS.defers, by rw [(mkF_len n ls x).1, hS.tl, hlen], fun t v hv => rdF_tmp hS hok ls h (mkF_tmp n ls x hv), ?_, ?_, ?_, hS.fr⟩
    · intro m o ho
      rcases hob m o ho with ⟨l, e, t, xs, h1, h2, rfl⟩ | ⟨l, t, cs, y, h1, h2, h3, h4, rfl⟩ | ⟨e, t, h1, rfl⟩
      · obtain ⟨cells, h3, h4⟩ := hS.objs l _ h2
        exact ⟨cells, by simpa [muL, h1] using h3, h4.mono (Agree.refl _ _) (fun b _ hb => hok b hb)⟩
      · obtain ⟨b, us, E', e, hg, hvs, h5⟩ := hS.objs l _ h2
        obtain ⟨u1, u2, ds, rfl, _, hcr, hr⟩ := imp_CR hS hok t h4 hvs (fun ⟨c, hc, ho⟩ => by
          rw [List.any_eq_false] at h3; exact absurd ho (h3 c hc))
        have hr : u2 = [] := hr
        subst hr
        exact ⟨b, u1, E', by simpa [muL, h1] using e, by simpa using hg, expl_VAs t y u1 hcr, by simpa using h5⟩
      · refine ⟨[], ?_, rfl⟩
        rw [show muL μ af m = .slice none 0 0 by simp [muL, h1]]
        exact World.ownsRow_nil _ _ _ _
    · intro m o b ho hb
      obtain ⟨o', h3, h4⟩ := (hob m o ho).live (μ := μ) hb
      rw [h4] at hb
      exact hS.wr _ o' b h3 hb
    · intro m m' o o' b ho ho' hb hb'
      obtain ⟨o1, h3, h4⟩ := (hob m o ho).live (μ := μ) hb
      obtain ⟨o2, h5, h6⟩ := (hob m' o' ho').live (μ := μ) hb'
      rw [h4] at hb
      rw [h6] at hb'
      exact HasObj.inj ls hnd (mkF_obj n ls x ho) (mkF_obj n ls x ho') (hS.inj _ _ o1 o2 b h3 h5 hb hb')
  · cases h

theorem St.read (hst : St P A Wr w0 af a w) {ls : List (Nat × Live)} {x : (liveTy ls).T} (h : rdL n af ls = some x) : St P A Wr w0 (mkF n ls x) a w :=
  let ⟨hK, _, hS⟩ := hst; ⟨hK, _, hS.read h⟩

/-! ### Code -/

def exM : Exit → Ex → Prop
  | .normal, .normal => True
  | .exit i, .exit j => i = j
  | .ret, .ret => True
  | _, _ => False

/-- The loops of a piece of code. -/
def loopList : Code → List Code
  | .seq a b => loopList a ++ loopList b
  | .cond _ a b => loopList a ++ loopList b
  | .block _ c => loopList c
  | .loop c => c :: loopList c
  | _ => []

/-- What a round leaves: it goes on, or it has left the loop. -/
def readK (n : Nat) (live : List (Nat × Live)) (brk : Nat) (blive rlive : List (Nat × Live)) : Ex → AF → Option ((liveTy live).T ⊕ ((liveTy blive).T ⊕ (liveTy rlive).T))
  | .normal, af => match rdL n af live with
    | some x => some (.inl x)
    | none => none
  | .exit i, af => if i = brk then match rdL n af blive with
    | some y => some (.inr (.inl y))
    | none => none
    else none
  | .ret, af => match rdL n af rlive with
    | some z => some (.inr (.inr z))
    | none => none

/-- What a loop's spec owes: each round, from whatever it may hold at its head, goes on or leaves as the spec says. -/
def LOK (Γ : Tab) (E : Elems) (σ : FuncId → Option Spec) (Λ : Nat → Option LSpec) (n : Nat) (ls : LSpec) (c : Code) : Prop :=
  ∃ m : (liveTy ls.live).T → Nat, ∀ x out, ls.L x = some out → ∃ st, codeK Γ E σ Λ n c (mkF n ls.live x) (readK n ls.live ls.brk ls.blive ls.rlive) = some st ∧
    match st with
    | .inl x' => ls.L x' = some out ∧ m x' < m x
    | .inr o => o = out

theorem codeK_ok (hT : tabB P Γ E = true) (hσ : ∀ f s, σ f = some s → FnOK P f s) : ∀ (c : Code), (∀ c' ∈ loopList c, ∀ ls, Λ (codeKey c') = some ls → LOK Γ E σ Λ n ls c') →
    ∀ {R : Type} {K : Ex → AF → Option R} {r : R} {af : AF} {a : Act} {w : World}, codeK Γ E σ Λ n c af K = some r → St P A Wr w0 af a w →
    c.wp P (fun e a w => ∃ e' af', exM e e' ∧ K e' af' = some r ∧ St P A Wr w0 af' a w) a w
  | .skip, _, R, K, r, af, a, w, h, hst => wp_skip ⟨.normal, af, trivial, h, hst⟩
  | .label l, _, R, K, r, af, a, w, h, hst => wp_label ⟨.normal, af, trivial, h, hst⟩
  | .exit id, _, R, K, r, af, a, w, h, hst => wp_exit ⟨.exit id, af, rfl, h, hst⟩
  | .ret, _, R, K, r, af, a, w, h, hst => wp_ret ⟨.ret, af, trivial, h, hst⟩
  | .region id ops draw, _, R, K, r, af, a, w, h, hst => by
    unfold codeK at h
    split at h
    · split at h
      · rename_i hsel
        exact drawK_ok hT hσ hsel (fun a w ⟨af', h1, h2⟩ => ⟨.normal, af', trivial, h1, h2⟩) (fun c a w ⟨e', _, hm, _⟩ => by cases e' <;> exact hm) hst h
      · cases h
    · exact wp_region_list (opsK_ok hT hσ (fun a w ⟨af', h1, h2⟩ => ⟨.normal, af', trivial, h1, h2⟩) _ hst h)
  | .seq x y, hL, R, K, r, af, a, w, h, hst => by
    unfold codeK at h
    have h1 := codeK_ok hT hσ x (fun c' hc => hL c' (List.mem_append.2 (.inl hc))) h hst
    refine wp_seq (wp_mono h1 ?_)
    rintro e a' w' ⟨e', af', hm, hk, hst'⟩
    cases e' with
    | normal =>
      cases e <;> simp only [exM] at hm
      exact codeK_ok hT hσ y (fun c' hc => hL c' (List.mem_append.2 (.inr hc))) hk hst'
    | exit i =>
      cases e <;> simp only [exM] at hm
      exact ⟨.exit i, af', hm, hk, hst'⟩
    | ret =>
      cases e <;> simp only [exM] at hm
      exact ⟨.ret, af', trivial, hk, hst'⟩
  | .cond c x y, hL, R, K, r, af, a, w, h, hst => by
    unfold codeK at h
    split at h
    · rename_i d
      split at h
      · rename_i t ht
        have hc : a.eval (.tmp d) = .bool t := hst.bool ht
        split at h
        · exact wp_cond_true hc (codeK_ok hT hσ x (fun c' hc => hL c' (List.mem_append.2 (.inl hc))) h (hst.know ht))
        · exact wp_cond_false hc (codeK_ok hT hσ y (fun c' hc => hL c' (List.mem_append.2 (.inr hc))) h (hst.know ht))
      · cases h
    · cases h
  | .block id c, hL, R, K, r, af, a, w, h, hst => by
    unfold codeK at h
    have h1 := codeK_ok hT hσ c hL h hst
    refine wp_block (wp_mono h1 ?_)
    rintro e a' w' ⟨e', af', hm, hk, hst'⟩
    cases e' with
    | normal =>
      cases e <;> simp only [exM] at hm
      exact ⟨.normal, af', trivial, hk, hst'⟩
    | exit i =>
      cases e <;> simp only [exM] at hm
      subst hm
      simp only [Exit.inBlock]
      simp only at hk
      split
      · rename_i hid
        rw [if_pos hid] at hk
        exact ⟨.normal, af', trivial, hk, hst'⟩
      · rename_i hid
        rw [if_neg hid] at hk
        exact ⟨.exit _, af', rfl, hk, hst'⟩
    | ret =>
      cases e <;> simp only [exM] at hm
      exact ⟨.ret, af', trivial, hk, hst'⟩
  | .loop c, hL, R, K, r, af, a, w, h, hst => by
    unfold codeK at h
    split at h
    · cases h
    · rename_i ls hls
      split at h
      · cases h
      · rename_i x hx
        obtain ⟨m, hm⟩ := hL c (by simp [loopList]) ls hls
        split at h
        · cases h
        all_goals
          rename_i out hout
          refine wp_loop_ghost (fun k a w => ∃ x, m x = k ∧ ls.L x = some _ ∧ St P A Wr w0 (mkF n ls.live x) a w) (m x) ⟨x, rfl, hout, hst.read hx⟩ ?_
          rintro k a w ⟨x, rfl, hx, hst⟩
          obtain ⟨st, hc, he⟩ := hm x _ hx
          refine wp_mono (codeK_ok hT hσ c (fun c' hc' => hL c' (by simp [loopList, hc'])) hc hst) ?_
          rintro e0 a' w' ⟨e', af2, hmm, hk, hst'⟩
          cases e' with
          | normal =>
            cases e0 <;> simp only [exM] at hmm
            simp only [readK] at hk
            split at hk
            · rename_i x' h1
              obtain rfl := Option.some.inj hk
              exact ⟨m x', he.2, x', rfl, he.1, hst'.read h1⟩
            · cases hk
          | exit i =>
            cases e0 <;> simp only [exM] at hmm
            simp only [readK] at hk
            split at hk
            · rename_i h1
              split at hk
              · rename_i y h2
                obtain rfl := Option.some.inj hk
                cases he <;> exact ⟨.exit ls.brk, _, by simp [exM, hmm, h1], h, hst'.read h2⟩
              · cases hk
            · cases hk
          | ret =>
            cases e0 <;> simp only [exM] at hmm
            simp only [readK] at hk
            split at hk
            · rename_i z h2
              obtain rfl := Option.some.inj hk
              cases he <;> exact ⟨.ret, _, trivial, h, hst'.read h2⟩
            · cases hk
  | .rangeFunc _ _ _ _, _, R, K, r, af, a, w, h, hst => by simp [codeK] at h
  | .scope _, _, R, K, r, af, a, w, h, hst => by simp [codeK] at h
  | .goto _, _, R, K, r, af, a, w, h, hst => by simp [codeK] at h
  | .refuse _, _, R, K, r, af, a, w, h, hst => by simp [codeK] at h
end
end Go.Proofs.Yteldmddnmhmecaa
