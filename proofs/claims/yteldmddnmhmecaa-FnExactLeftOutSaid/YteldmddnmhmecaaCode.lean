/- Code and functions: what the interpreter says, the model does. -/
import Derived.Test.YteldmddnmhmecaaOps
import Derived.Deep.LoopGhost
namespace Go.Proofs.Yteldmddnmhmecaa
open Go.RowKit

section
variable {P : Program} {A Wr : Nat → Prop} {μ : Nat → Value} {af : AF} {a : Act} {w w0 : World} {Γ : Tab} {E : Elems} {R : Type} {σ : FuncId → Option Spec} {Λ : Nat → Option LSpec} {n : Nat}

theorem Sim.know (hS : Sim P A Wr μ af a w) {d : Nat} {t : Bool} (h : af.get d = .dat .bool t) : Sim P A Wr μ (af.know d t) a w := by
  refine ⟨hS.defers, by simp [AF.know, AF.put, hS.tl], ?_, hS.objs, hS.wr, hS.inj, hS.fr⟩
  intro s x hx
  show VA P μ (okS A μ af) w x _
  simp only [AF.know, AF.put] at hx
  by_cases hd : d = s
  · subst hd
    have hlt : d < af.tmps.length := by have := (List.getElem?_eq_some_iff.1 hx).1; simpa using this
    rw [List.getElem?_set_self hlt] at hx
    simp at hx; subst hx
    have := get_VA hS d
    rwa [h] at this
  · rw [List.getElem?_set_ne hd] at hx
    exact hS.tmps s x hx

theorem St.know (hst : St P A Wr w0 af a w) {d : Nat} {t : Bool} (h : af.get d = .dat .bool t) : St P A Wr w0 (af.know d t) a w :=
  let ⟨hK, μ, hS⟩ := hst; ⟨hK, μ, hS.know h⟩

theorem St.bool (hst : St P A Wr w0 af a w) {d : Nat} {t : Bool} (h : af.get d = .dat .bool t) : a.tmps.getD d undef = .bool t := by
  obtain ⟨_, μ, hS⟩ := hst
  have := get_VA hS d
  rw [h, VA_bool] at this
  exact this

theorem St.junk (hst : St P A Wr w0 af a w) (d : Option Tmp) (u : Value) : St P A Wr w0 (af.put d .junk) (a.put d u) w := by
  obtain ⟨hK, μ, hS⟩ := hst
  exact St.put hK hS d trivial

theorem yielded_of {all : Array Oper} {j d : Nat} {t : Bool} (hj : (all[j]?).bind (·.dst) = some d) (h : a.tmps.getD d undef = .bool t) : yielded all a.tmps j = some t := by
  have : a.tmps[d]? = some (.bool t) := by
    cases hh : a.tmps[d]? with
    | none =>
      have : a.tmps.getD d undef = undef := by simp [hh]
      rw [this] at h; simp [undef] at h
    | some u => have : a.tmps.getD d undef = u := by simp [hh]
                rw [this] at h; rw [h]
  simp [yielded, hj, this]

theorem opsK_ok (hT : tabB P Γ E = true) (hσ : ∀ f s, σ f = some s → FnOK P f s) {all : Array Oper} {K : AF → Option R} {r : R} {Q : Exit → Act → World → Prop} (hQ : ∀ a w, PK P A Wr w0 K r a w → Q .normal a w) :
    ∀ (rest : List Oper) {af : AF} {a : Act} {w : World}, St P A Wr w0 af a w → opsK Γ E σ all rest af K = some r → wpList P all Q rest a w
  | [], _, _, _, hst, h => wpList_nil (hQ _ _ ⟨_, h, hst⟩)
  | o :: rest, af, a, w, hst, h => by
    refine wpList_step fun N hN => ?_
    have run : ∀ {af' : AF}, St P A Wr w0 af' a w → opK Γ E σ o af' (fun af' => opsK Γ E σ all rest af' K) = some r → o.wp P a w N Q := fun hst' h' =>
      opK_ok hT hσ hst' h' fun a' w' ⟨af2, h2, hst2⟩ => hN _ _ (opsK_ok hT hσ hQ rest hst2 h2)
    have skip : ∀ {af' : AF}, St P A Wr w0 af' a w → opsK Γ E σ all rest (af'.put o.dst .junk) K = some r → N (a.put o.dst undef) w := fun hst' h' =>
      hN _ _ (opsK_ok hT hσ hQ rest (hst'.junk o.dst undef) h')
    unfold opsK at h
    split at h
    · rename_i hg
      rw [if_pos (by simp [Region.wanted, hg])]
      exact run hst h
    · rename_i j want hg
      split at h
      · cases h
      · rename_i d hd
        split at h
        · rename_i t ht
          have hy := yielded_of hd (hst.bool ht)
          have hw : Region.wanted o (yielded all a.tmps) = (some t == some want) := by simp [Region.wanted, hg, hy]
          rw [hw]
          split at h
          · cases want with
            | true => rw [if_pos (by decide)]; rw [if_pos rfl] at h; exact run (hst.know ht) h
            | false => rw [if_neg (by decide)]; rw [if_neg (by decide)] at h; exact skip (hst.know ht) h
          · cases want with
            | true => rw [if_neg (by decide)]; rw [if_pos rfl] at h; exact skip (hst.know ht) h
            | false => rw [if_pos (by decide)]; rw [if_neg (by decide)] at h; exact run (hst.know ht) h
        · cases h

/-! ### Loops: what is handed on -/

def HasTmp : (ls : List (Nat × Live)) → (liveTy ls).T → Nat → AV → Prop
  | [], _, _, v => v = .junk
  | (s, .val t) :: r, x, m, v => (m = s ∧ v = .dat t x.1) ∨ HasTmp r x.2 m v
  | (s, .arr _ _) :: r, x, m, v => (m = s ∧ v = .own s) ∨ HasTmp r x.2 m v
  | (s, .box _) :: r, x, m, v => (m = s ∧ v = .bptr s 0) ∨ HasTmp r x.2 m v
def HasObj : (ls : List (Nat × Live)) → (liveTy ls).T → Nat → AO → Prop
  | [], _, _, _ => False
  | (_, .val _) :: r, x, m, o => HasObj r x.2 m o
  | (s, .arr e t) :: r, x, m, o => (m = s ∧ o = .arr e t x.1) ∨ HasObj r x.2 m o
  | (s, .box t) :: r, x, m, o => (m = s ∧ o = .box (expl t x.1)) ∨ HasObj r x.2 m o

theorem mkF_len (n : Nat) : ∀ (ls : List (Nat × Live)) (x : (liveTy ls).T), (mkF n ls x).tmps.length = n ∧ (mkF n ls x).objs.length = n
  | [], _ => by simp [mkF, AF.blank]
  | (s, .val t) :: r, x => by have := mkF_len n r x.2; simpa [mkF, AF.put] using this
  | (s, .arr _ _) :: r, x => by have := mkF_len n r x.2; simpa [mkF, AF.put, AF.putObj] using this
  | (s, .box _) :: r, x => by have := mkF_len n r x.2; simpa [mkF, AF.put, AF.putObj] using this

theorem put_tmp {s m : Nat} {v u : AV} (h : (af.put (some s) v).tmps[m]? = some u) : (m = s ∧ u = v) ∨ af.tmps[m]? = some u := by
  simp only [AF.put] at h
  by_cases hs : s = m
  · subst hs
    have hlt : s < af.tmps.length := by have := (List.getElem?_eq_some_iff.1 h).1; simpa using this
    rw [List.getElem?_set_self hlt] at h
    simp at h
    exact .inl ⟨rfl, h.symm⟩
  · rw [List.getElem?_set_ne hs] at h; exact .inr h
theorem putObj_obj {s m : Nat} {o o' : AO} (h : (af.putObj s (some o)).obj m = some o') : (m = s ∧ o' = o) ∨ af.obj m = some o' := by
  unfold AF.putObj AF.obj at h
  simp only [List.getD, List.getElem?_set] at h
  by_cases hs : s = m
  · subst hs
    simp only [if_true] at h
    split at h
    · simp at h; exact .inl ⟨rfl, h.symm⟩
    · simp at h
  · simp only [hs, if_false] at h
    exact .inr h

theorem mkF_tmp (n : Nat) : ∀ (ls : List (Nat × Live)) (x : (liveTy ls).T) {m : Nat} {v : AV}, (mkF n ls x).tmps[m]? = some v → HasTmp ls x m v
  | [], _, m, v, h => by
    simp only [mkF, AF.blank, List.getElem?_replicate] at h
    split at h
    · simp at h; exact h.symm
    · cases h
  | (s, .val t) :: r, x, m, v, h => (put_tmp h).imp id (mkF_tmp n r x.2)
  | (s, .arr _ _) :: r, x, m, v, h => (put_tmp (af := mkF n r x.2) h).imp id (mkF_tmp n r x.2)
  | (s, .box _) :: r, x, m, v, h => (put_tmp (af := mkF n r x.2) h).imp id (mkF_tmp n r x.2)
theorem mkF_obj (n : Nat) : ∀ (ls : List (Nat × Live)) (x : (liveTy ls).T) {m : Nat} {o : AO}, (mkF n ls x).obj m = some o → HasObj ls x m o
  | [], _, m, o, h => by
    simp only [mkF, AF.blank, AF.obj, List.getD, List.getElem?_replicate] at h
    split at h <;> simp at h
  | (s, .val t) :: r, x, m, o, h => mkF_obj n r x.2 (by rwa [mkF, obj_put] at h)
  | (s, .arr _ _) :: r, x, m, o, h => (putObj_obj h).imp id fun h => mkF_obj n r x.2 (by rwa [obj_put] at h)
  | (s, .box _) :: r, x, m, o, h => (putObj_obj h).imp id fun h => mkF_obj n r x.2 (by rwa [obj_put] at h)

/-- The names of the objects that are handed on. -/
def muL (μ : Nat → Value) (af : AF) (s : Nat) : Value := match af.get s with
  | .own l => μ l
  | .bptr l _ => μ l
  | _ => undef

/-- What reading says of an object that is handed on. -/
def ObjOf (af : AF) (s : Nat) (o : AO) : Prop :=
  (∃ l e t xs, af.get s = .own l ∧ af.obj l = some (.arr e t xs) ∧ o = .arr e t xs) ∨
  (∃ l t cs x, af.get s = .bptr l 0 ∧ af.obj l = some (.box cs) ∧ cs.any AV.owns = false ∧ imp af.objs t cs = some (x, []) ∧ o = .box (expl t x))

theorem rdF_obj : ∀ (ls : List (Nat × Live)) {x : (liveTy ls).T}, rdF af ls = some x → ∀ {m : Nat} {o : AO}, HasObj ls x m o → ObjOf af m o
  | (s, .val t) :: r, x, h, m, o, ho => by
    unfold rdF at h
    split at h
    · cases h
    · split at h
      · split at h
        · rename_i hr; obtain rfl := Option.some.inj h; exact rdF_obj r hr ho
        · cases h
      · cases h
  | (s, .arr e t) :: r, x, h, m, o, ho => by
    unfold rdF at h
    split at h
    · rename_i l hl
      split at h
      · rename_i e' t' xs hob
        split at h
        · rename_i he
          split at h
          · rename_i y hy
            split at h
            · rename_i hr
              obtain rfl := Option.some.inj h
              rcases ho with ⟨rfl, rfl⟩ | ho
              · obtain ⟨e1, e2⟩ := castT_some hy
                simp at e1
                subst e1 he
                simp only at e2
                rw [e2]
                exact .inl ⟨l, _, _, xs, hl, hob, rfl⟩
              · exact rdF_obj r hr ho
            · cases h
          · cases h
        · cases h
      · cases h
    · cases h
  | (s, .box t) :: r, x, h, m, o, ho => by
    unfold rdF at h
    split at h
    · rename_i l off hl
      split at h
      · rename_i h0
        split at h
        · rename_i cs hob
          split at h
          · cases h
          · rename_i hno
            split at h
            · rename_i y hy
              split at h
              · rename_i hr
                obtain rfl := Option.some.inj h
                rcases ho with ⟨rfl, rfl⟩ | ho
                · subst h0
                  exact .inr ⟨l, t, cs, y, hl, hob, by simpa using hno, hy, rfl⟩
                · exact rdF_obj r hr ho
              · cases h
            · cases h
        · cases h
      · cases h
    · cases h
  | [], _, _, _, _, ho => ho.elim

theorem HasObj.lab : ∀ (ls : List (Nat × Live)) {x : (liveTy ls).T} {m : Nat} {o : AO}, HasObj ls x m o → af.lab m ∈ liveLabels af ls
  | (s, .val t) :: r, x, m, o, h => HasObj.lab r h
  | (s, .arr _ _) :: r, x, m, o, h => by
    rcases h with ⟨rfl, _⟩ | h
    · simp [liveLabels]
    · simp only [liveLabels, List.mem_cons]; exact .inr (HasObj.lab r h)
  | (s, .box _) :: r, x, m, o, h => by
    rcases h with ⟨rfl, _⟩ | h
    · simp [liveLabels]
    · simp only [liveLabels, List.mem_cons]; exact .inr (HasObj.lab r h)
theorem HasObj.inj : ∀ (ls : List (Nat × Live)) {x : (liveTy ls).T} {m m' : Nat} {o o' : AO}, nodupB (liveLabels af ls) = true → HasObj ls x m o → HasObj ls x m' o' → af.lab m = af.lab m' → m = m'
  | (s, .val t) :: r, x, _, _, _, _, hn, h, h', e => HasObj.inj r hn h h' e
  | (s, .arr _ _) :: r, x, _, _, _, _, hn, h, h', e => by
    simp only [liveLabels, nodupB, Bool.and_eq_true] at hn
    rcases h with ⟨rfl, _⟩ | h <;> rcases h' with ⟨rfl, _⟩ | h'
    · rfl
    · have := HasObj.lab (af := af) r h'; rw [← e] at this; simp [this] at hn
    · have := HasObj.lab (af := af) r h; rw [e] at this; simp [this] at hn
    · exact HasObj.inj r hn.2 h h' e
  | (s, .box _) :: r, x, _, _, _, _, hn, h, h', e => by
    simp only [liveLabels, nodupB, Bool.and_eq_true] at hn
    rcases h with ⟨rfl, _⟩ | h <;> rcases h' with ⟨rfl, _⟩ | h'
    · rfl
    · have := HasObj.lab (af := af) r h'; rw [← e] at this; simp [this] at hn
    · have := HasObj.lab (af := af) r h; rw [e] at this; simp [this] at hn
    · exact HasObj.inj r hn.2 h h' e

theorem ObjOf.live {s : Nat} {o : AO} (h : ObjOf af s o) : ∃ o', af.obj (af.lab s) = some o' ∧ muL μ af s = μ (af.lab s) := by
  rcases h with ⟨l, e, t, xs, h1, h2, _⟩ | ⟨l, t, cs, x, h1, h2, _⟩
  · exact ⟨_, by simp only [AF.lab, h1]; exact h2, by simp [AF.lab, muL, h1]⟩
  · exact ⟨_, by simp only [AF.lab, h1]; exact h2, by simp [AF.lab, muL, h1]⟩

theorem rdF_tmp (hS : Sim P A Wr μ af a w) {ok' : Nat → Prop} (hok : ∀ b, okS A μ af b → ok' b) : ∀ (ls : List (Nat × Live)) {x : (liveTy ls).T}, rdF af ls = some x → ∀ {m : Nat} {v : AV}, HasTmp ls x m v → VA P (muL μ af) ok' w v (a.tmps.getD m undef)
  | (s, .val t) :: r, x, h, m, v, hv => by
    unfold rdF at h
    split at h
    · cases h
    · rename_i hno
      split at h
      · rename_i y hy
        split at h
        · rename_i hr
          obtain rfl := Option.some.inj h
          rcases hv with ⟨rfl, rfl⟩ | hv
          · exact get0_VR hS hok hy (get_VA hS m) (fun ho => absurd ho hno)
          · exact rdF_tmp hS hok r hr hv
        · cases h
      · cases h
  | (s, .arr e t) :: r, x, h, m, v, hv => by
    unfold rdF at h
    split at h
    · rename_i l hl
      split at h
      · split at h
        · split at h
          · split at h
            · rename_i hr
              obtain rfl := Option.some.inj h
              rcases hv with ⟨rfl, rfl⟩ | hv
              · have := get_VA hS m
                rw [hl] at this
                have this : a.tmps.getD m undef = μ l := this
                show _ = muL μ af m
                rw [this]; simp [muL, hl]
              · exact rdF_tmp hS hok r hr hv
            · cases h
          · cases h
        · cases h
      · cases h
    · cases h
  | (s, .box t) :: r, x, h, m, v, hv => by
    unfold rdF at h
    split at h
    · rename_i l off hl
      split at h
      · rename_i h0
        split at h
        · split at h
          · cases h
          · split at h
            · split at h
              · rename_i hr
                obtain rfl := Option.some.inj h
                rcases hv with ⟨rfl, rfl⟩ | hv
                · have := get_VA hS m
                  rw [hl, h0] at this
                  obtain ⟨b, h1, h2⟩ := this
                  exact ⟨b, by simp only [muL, hl]; exact h1, h2⟩
                · exact rdF_tmp hS hok r hr hv
              · cases h
            · cases h
        · cases h
      · cases h
    · cases h
  | [], _, _, _, _, hv => by have hv : _ = AV.junk := hv; subst hv; trivial

/-- What has been read stands in a frame of its own. -/
theorem Sim.read (hS : Sim P A Wr μ af a w) {ls : List (Nat × Live)} {x : (liveTy ls).T} (h : rdL n af ls = some x) : Sim P A Wr (muL μ af) (mkF n ls x) a w := by
  unfold rdL at h
  split at h
  · rename_i hc
    simp only [Bool.and_eq_true, decide_eq_true_eq] at hc
    obtain ⟨hlen, hnd⟩ := hc
    have hob : ∀ m o, (mkF n ls x).obj m = some o → ObjOf af m o := fun m o ho => rdF_obj ls h (mkF_obj n ls x ho)
    have hok : ∀ b, okS A μ af b → okS A (muL μ af) (mkF n ls x) b := by
      rintro b ⟨h1, h2⟩
      refine ⟨h1, fun m o ho => ?_⟩
      obtain ⟨o', h3, h4⟩ := (hob m o ho).live (μ := μ)
      rw [h4]; exact h2 _ o' h3
    refine ⟨hS.defers, by rw [(mkF_len n ls x).1, hS.tl, hlen], fun t v hv => rdF_tmp hS hok ls h (mkF_tmp n ls x hv), ?_, ?_, ?_, hS.fr⟩
    · intro m o ho
      rcases hob m o ho with ⟨l, e, t, xs, h1, h2, rfl⟩ | ⟨l, t, cs, y, h1, h2, h3, h4, rfl⟩
      · obtain ⟨cells, h3, h4⟩ := hS.objs l _ h2
        exact ⟨cells, by simpa [muL, h1] using h3, h4.mono (Agree.refl _ _) (fun b _ hb => hok b hb)⟩
      · obtain ⟨b, us, E', e, hg, hvs, h5⟩ := hS.objs l _ h2
        obtain ⟨u1, u2, ds, rfl, _, hcr, hr⟩ := imp_CR hS hok t h4 hvs (fun ⟨c, hc, ho⟩ => by
          rw [List.any_eq_false] at h3; exact absurd ho (h3 c hc))
        have hr : u2 = [] := hr
        subst hr
        exact ⟨b, u1, E', by simpa [muL, h1] using e, by simpa using hg, expl_VAs t y u1 hcr, by simpa using h5⟩
    · intro m o b ho hb
      obtain ⟨o', h3, h4⟩ := (hob m o ho).live (μ := μ)
      rw [h4] at hb
      exact hS.wr _ o' b h3 hb
    · intro m m' o o' b ho ho' hb hb'
      obtain ⟨o1, h3, h4⟩ := (hob m o ho).live (μ := μ)
      obtain ⟨o2, h5, h6⟩ := (hob m' o' ho').live (μ := μ)
      rw [h4] at hb
      rw [h6] at hb'
      exact HasObj.inj ls hnd (mkF_obj n ls x ho) (mkF_obj n ls x ho') (hS.inj _ _ o1 o2 b h3 h5 hb hb')
  · cases h

theorem St.read (hst : St P A Wr w0 af a w) {ls : List (Nat × Live)} {x : (liveTy ls).T} (h : rdL n af ls = some x) : St P A Wr w0 (mkF n ls x) a w :=
  let ⟨hK, _, hS⟩ := hst; ⟨hK, _, hS.read h⟩

/-! ### Code -/

def exM : Exit → Ex → Prop
  | .normal, .normal => True
  | .exit i, .exit j => i = j
  | .ret, .ret => True
  | _, _ => False

/-- The loops of a piece of code. -/
def loopList : Code → List Code
  | .seq a b => loopList a ++ loopList b
  | .cond _ a b => loopList a ++ loopList b
  | .block _ c => loopList c
  | .loop c => c :: loopList c
  | _ => []

/-- What a loop's spec owes: each round, from whatever it may hold at its head, goes on or leaves as the spec says. -/
def LOK (Γ : Tab) (E : Elems) (σ : FuncId → Option Spec) (Λ : Nat → Option LSpec) (n : Nat) (ls : LSpec) (c : Code) : Prop :=
  ∃ m : (liveTy ls.live).T → Nat, ∀ x out, ls.L x = some out → ∃ e af', codeK Γ E σ Λ n c (mkF n ls.live x) (fun e af => some (e, af)) = some (e, af') ∧
    match e with
    | .normal => ∃ x', rdL n af' ls.live = some x' ∧ ls.L x' = some out ∧ m x' < m x
    | .exit i => i = ls.brk ∧ ∃ y, rdL n af' ls.blive = some y ∧ out = .inl y
    | .ret => ∃ z, rdL n af' ls.rlive = some z ∧ out = .inr z

theorem codeK_ok (hT : tabB P Γ E = true) (hσ : ∀ f s, σ f = some s → FnOK P f s) : ∀ (c : Code), (∀ c' ∈ loopList c, ∀ ls, Λ (codeKey c') = some ls → LOK Γ E σ Λ n ls c') →
    ∀ {R : Type} {K : Ex → AF → Option R} {r : R} {af : AF} {a : Act} {w : World}, codeK Γ E σ Λ n c af K = some r → St P A Wr w0 af a w →
    c.wp P (fun e a w => ∃ e' af', exM e e' ∧ K e' af' = some r ∧ St P A Wr w0 af' a w) a w
  | .skip, _, R, K, r, af, a, w, h, hst => wp_skip ⟨.normal, af, trivial, h, hst⟩
  | .label l, _, R, K, r, af, a, w, h, hst => wp_label ⟨.normal, af, trivial, h, hst⟩
  | .exit id, _, R, K, r, af, a, w, h, hst => wp_exit ⟨.exit id, af, rfl, h, hst⟩
  | .ret, _, R, K, r, af, a, w, h, hst => wp_ret ⟨.ret, af, trivial, h, hst⟩
  | .region id ops draw, _, R, K, r, af, a, w, h, hst => by
    unfold codeK at h
    split at h
    · cases h
    · rename_i hd
      have hd : draw = false := by simpa using hd
      subst hd
      exact wp_region_list (opsK_ok hT hσ (fun a w ⟨af', h1, h2⟩ => ⟨.normal, af', trivial, h1, h2⟩) _ hst h)
  | .seq x y, hL, R, K, r, af, a, w, h, hst => by
    unfold codeK at h
    have h1 := codeK_ok hT hσ x (fun c' hc => hL c' (List.mem_append.2 (.inl hc))) h hst
    refine wp_seq (wp_mono h1 ?_)
    rintro e a' w' ⟨e', af', hm, hk, hst'⟩
    cases e' with
    | normal =>
      cases e <;> simp only [exM] at hm
      exact codeK_ok hT hσ y (fun c' hc => hL c' (List.mem_append.2 (.inr hc))) hk hst'
    | exit i =>
      cases e <;> simp only [exM] at hm
      exact ⟨.exit i, af', hm, hk, hst'⟩
    | ret =>
      cases e <;> simp only [exM] at hm
      exact ⟨.ret, af', trivial, hk, hst'⟩
  | .cond c x y, hL, R, K, r, af, a, w, h, hst => by
    unfold codeK at h
    split at h
    · rename_i d
      split at h
      · rename_i t ht
        have hc : a.eval (.tmp d) = .bool t := hst.bool ht
        split at h
        · exact wp_cond_true hc (codeK_ok hT hσ x (fun c' hc => hL c' (List.mem_append.2 (.inl hc))) h (hst.know ht))
        · exact wp_cond_false hc (codeK_ok hT hσ y (fun c' hc => hL c' (List.mem_append.2 (.inr hc))) h (hst.know ht))
      · cases h
    · cases h
  | .block id c, hL, R, K, r, af, a, w, h, hst => by
    unfold codeK at h
    have h1 := codeK_ok hT hσ c hL h hst
    refine wp_block (wp_mono h1 ?_)
    rintro e a' w' ⟨e', af', hm, hk, hst'⟩
    cases e' with
    | normal =>
      cases e <;> simp only [exM] at hm
      exact ⟨.normal, af', trivial, hk, hst'⟩
    | exit i =>
      cases e <;> simp only [exM] at hm
      subst hm
      simp only [Exit.inBlock]
      simp only at hk
      split
      · rename_i hid
        rw [if_pos hid] at hk
        exact ⟨.normal, af', trivial, hk, hst'⟩
      · rename_i hid
        rw [if_neg hid] at hk
        exact ⟨.exit _, af', rfl, hk, hst'⟩
    | ret =>
      cases e <;> simp only [exM] at hm
      exact ⟨.ret, af', trivial, hk, hst'⟩
  | .loop c, hL, R, K, r, af, a, w, h, hst => by
    unfold codeK at h
    split at h
    · cases h
    · rename_i ls hls
      split at h
      · cases h
      · rename_i x hx
        obtain ⟨m, hm⟩ := hL c (by simp [loopList]) ls hls
        split at h
        · cases h
        all_goals
          rename_i out hout
          refine wp_loop_ghost (fun k a w => ∃ x, m x = k ∧ ls.L x = some _ ∧ St P A Wr w0 (mkF n ls.live x) a w) (m x) ⟨x, rfl, hout, hst.read hx⟩ ?_
          rintro k a w ⟨x, rfl, hx, hst⟩
          obtain ⟨e, af', hc, he⟩ := hm x _ hx
          refine wp_mono (codeK_ok hT hσ c (fun c' hc' => hL c' (by simp [loopList, hc'])) hc hst) ?_
          rintro e0 a' w' ⟨e', af2, hmm, hk, hst'⟩
          simp only [Option.some.injEq, Prod.mk.injEq] at hk
          obtain ⟨rfl, rfl⟩ := hk
          cases e' with
          | normal =>
            cases e0 <;> simp only [exM] at hmm
            obtain ⟨x', h1, h2, h3⟩ := he
            exact ⟨m x', h3, x', rfl, h2, hst'.read h1⟩
          | exit i =>
            cases e0 <;> simp only [exM] at hmm
            obtain ⟨h1, y, h2, h3⟩ := he
            cases h3 <;> exact ⟨.exit ls.brk, _, by simp [exM, hmm, h1], h, hst'.read h2⟩
          | ret =>
            cases e0 <;> simp only [exM] at hmm
            obtain ⟨z, h2, h3⟩ := he
            cases h3 <;> exact ⟨.ret, _, trivial, h, hst'.read h2⟩
  | .rangeFunc _ _ _ _, _, R, K, r, af, a, w, h, hst => by simp [codeK] at h
  | .scope _, _, R, K, r, af, a, w, h, hst => by simp [codeK] at h
  | .goto _, _, R, K, r, af, a, w, h, hst => by simp [codeK] at h
  | .refuse _, _, R, K, r, af, a, w, h, hst => by simp [codeK] at h
end
end Go.Proofs.Yteldmddnmhmecaa
