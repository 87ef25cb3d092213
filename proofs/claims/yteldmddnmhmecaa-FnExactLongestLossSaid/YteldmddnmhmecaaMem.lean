/- The frame's relation under what changes memory: new objects, stores, a slice that becomes data, a world that has grown. -/
import Derived.Test.YteldmddnmhmecaaPure
namespace Go.Proofs.Yteldmddnmhmecaa
open Go.RowKit

section
variable {P : Program} {A Wr : Nat → Prop} {μ : Nat → Value} {af : AF} {a : Act} {w w' : World}

theorem blk_lt (hS : Sim P A Wr μ af a w) {l : Nat} {o : AO} {b : Nat} (ho : af.obj l = some o) (hb : blk (μ l) = some b) : b < w.heap.size := (hS.wr l o b ho hb).2.2

theorem ownsRow_heap {base : Nat} {e : TypeId} {size n : Nat} {v : Value} {xs : List Value} (h : w.ownsRow base e size v n xs) (hb : ∀ b, blk v = some b → w'.heap[b]? = w.heap[b]?) : w'.ownsRow base e size v n xs := by
  obtain ⟨h1, hn | ⟨g, cap, cur, rfl, h2, hg, h3⟩⟩ := h
  · exact ⟨h1, .inl hn⟩
  · exact ⟨h1, .inr ⟨g, cap, cur, rfl, h2, by rw [hb g rfl]; exact hg, h3⟩⟩

/-- An object in another world, under other names of what it does not lead to. -/
theorem OA.trans {μ' : Nat → Value} {ok ok' : Nat → Prop} {l : Nat} {o : AO} (h : OA P μ ok w l o) (hl : μ' l = μ l) (hm : ∀ m, (∃ cs, o = .box cs ∧ RefPs m cs) → μ' m = μ m)
    (ha : Agree ok w w') (hk : ∀ b, b < w.heap.size → ok b → ok' b) (hb : ∀ b, blk (μ l) = some b → w'.heap[b]? = w.heap[b]?) : OA P μ' ok' w' l o := by
  cases o with
  | box cs =>
    obtain ⟨b, us, E, e, hg, hv, h1⟩ := h
    exact ⟨b, us, E, hl.trans e, by rw [hb b (by rw [e]; rfl)]; exact hg, VAs.trans hv (fun m hr => hm m ⟨cs, rfl, hr⟩) ha hk, h1⟩
  | arr e t xs =>
    obtain ⟨cells, h1, h2⟩ := h
    exact ⟨cells, by rw [hl]; exact ownsRow_heap h1 hb, h2.mono ha hk⟩

/-- The world has grown: all that stood stands. -/
theorem Sim.grow (hS : Sim P A Wr μ af a w) (hk : Keeps noB w w') : Sim P A Wr μ af a w' := by
  have ha : Agree (okS A μ af) w w' := hk.agree fun _ _ _ h => h
  refine ⟨hS.defers, hS.tl, fun t x hx => (hS.tmps t x hx).trans (fun _ _ => rfl) ha (fun _ _ h => h),
    fun l o ho => (hS.objs l o ho).trans rfl (fun _ _ => rfl) ha (fun _ _ h => h) (fun b hb => hk.block b (blk_lt hS ho hb) id),
    fun l o b ho hb => ?_, hS.inj, fun b hb => hS.fr b (Nat.le_trans hk.size hb)⟩
  obtain ⟨h1, h2, h3⟩ := hS.wr l o b ho hb
  exact ⟨h1, h2, Nat.lt_of_lt_of_le h3 hk.size⟩

/-- af1 says no more than af. -/
structure SubF (af1 af : AF) : Prop where
  len : af1.tmps.length = af.tmps.length
  tmps : ∀ (t : Nat) x, af1.tmps[t]? = some x → x = AV.junk ∨ af.tmps[t]? = some x
  box : ∀ l cs, af1.obj l = some (.box cs) → ∃ cs', af.obj l = some (.box cs') ∧ cs.length = cs'.length ∧ ∀ (i : Nat) c, cs[i]? = some c → c = AV.junk ∨ cs'[i]? = some c
  arr : ∀ l e t xs, af1.obj l = some (.arr e t xs) → af.obj l = some (.arr e t xs)

theorem SubF.refl (af : AF) : SubF af af := ⟨rfl, fun _ _ h => .inr h, fun _ cs h => ⟨cs, h, rfl, fun _ _ h => .inr h⟩, fun _ _ _ _ h => h⟩
theorem SubF.obj {af1 af : AF} (h : SubF af1 af) {l : Nat} {o : AO} (ho : af1.obj l = some o) : ∃ o', af.obj l = some o' := by
  cases o with
  | box cs => obtain ⟨cs', h1, _⟩ := h.box l cs ho; exact ⟨_, h1⟩
  | arr e t xs => exact ⟨_, h.arr l e t xs ho⟩

theorem scrub_or (l : Nat) (v : AV) : v.scrub l = AV.junk ∨ v.scrub l = v := by
  unfold AV.scrub; split
  · exact .inl rfl
  · exact .inr rfl

theorem obj_drop (af : AF) (l m : Nat) : (af.drop l).obj m = if m = l then none else (af.obj m).map (AO.scrub l) := by
  unfold AF.drop AF.obj
  simp only [List.getD, List.getElem?_set, List.length_map, List.getElem?_map]
  by_cases h : l = m
  · subst h
    simp only [if_true]
    split <;> simp
  · have h' : ¬ m = l := fun e => h e.symm
    simp only [h, h', if_false]
    cases hh : af.objs[m]? with
    | none => simp
    | some o => cases o <;> simp

theorem SubF.drop (af : AF) (l : Nat) : SubF (af.drop l) af := by
  refine ⟨by simp [AF.drop], fun t x hx => ?_, fun m cs hm => ?_, fun m e t xs hm => ?_⟩
  · simp only [AF.drop, List.getElem?_map, Option.map_eq_some_iff] at hx
    obtain ⟨y, hy, rfl⟩ := hx
    rcases scrub_or l y with h | h
    · exact .inl h
    · exact .inr (by rw [h]; exact hy)
  · rw [obj_drop] at hm
    split at hm
    · cases hm
    · simp only [Option.map_eq_some_iff] at hm
      obtain ⟨o, ho, e⟩ := hm
      cases o with
      | arr _ _ _ => simp [AO.scrub] at e
      | box cs' =>
        simp [AO.scrub] at e; subst e
        refine ⟨cs', ho, by simp, fun i c hc => ?_⟩
        simp only [List.getElem?_map, Option.map_eq_some_iff] at hc
        obtain ⟨y, hy, rfl⟩ := hc
        rcases scrub_or l y with h | h
        · exact .inl h
        · exact .inr (by rw [h]; exact hy)
  · rw [obj_drop] at hm
    split at hm
    · cases hm
    · simp only [Option.map_eq_some_iff] at hm
      obtain ⟨o, ho, e'⟩ := hm
      cases o with
      | box cs' => simp [AO.scrub] at e'
      | arr e2 t2 xs2 => simp only [AO.scrub] at e'; rw [ho, e']

theorem VAs_sub {ok : Nat → Prop} : ∀ {cs cs' : List AV} {us : List Value}, VAs P μ ok w cs' us → cs.length = cs'.length → (∀ (i : Nat) c, cs[i]? = some c → c = AV.junk ∨ cs'[i]? = some c) → VAs P μ ok w cs us
  | [], [], _, h, _, _ => h
  | c :: cs, c' :: cs', _, h, hl, hc => by
    obtain ⟨u, us', rfl, h1, h2⟩ := h
    refine ⟨u, us', rfl, ?_, VAs_sub h2 (by simpa using hl) fun i x hx => by simpa using hc (i + 1) x (by simpa using hx)⟩
    rcases hc 0 c rfl with rfl | h
    · trivial
    · simp at h; subst h; exact h1
  | [], _ :: _, _, _, hl, _ => by simp at hl
  | _ :: _, [], _, _, hl, _ => by simp at hl

theorem noref_tmp {d : Nat} (h : af.noref d = true) {t : Nat} {x : AV} (hx : af.tmps[t]? = some x) : ¬ RefP d x := by
  simp only [AF.noref, Bool.and_eq_true, List.all_eq_true] at h
  have := h.1 x (List.mem_of_getElem? hx)
  exact RefP.of (by simpa using this)
theorem noref_obj {d : Nat} (h : af.noref d = true) {l : Nat} {cs : List AV} (hx : af.obj l = some (.box cs)) : ¬ RefPs d cs := by
  simp only [AF.noref, Bool.and_eq_true, List.all_eq_true] at h
  have hm : some (AO.box cs) ∈ af.objs := by
    unfold AF.obj at hx
    simp only [List.getD] at hx
    cases hh : af.objs[l]? with
    | none => simp [hh] at hx
    | some o => simp [hh] at hx; subst hx; exact List.mem_of_getElem? hh
  have := h.2 _ hm
  exact RefPs.of (by simpa [AO.refs] using this)

theorem obj_putObj (d : Nat) (o : Option AO) (l : Nat) (hd : d < af.objs.length) : (af.putObj d o).obj l = if l = d then o else af.obj l := by
  unfold AF.putObj AF.obj
  simp only [List.getD, List.getElem?_set]
  by_cases h : d = l
  · subst h; simp [hd]
  · have h' : ¬ l = d := fun e => h e.symm
    simp [h, h']

def upd (μ : Nat → Value) (d : Nat) (m : Value) : Nat → Value := fun l => if l = d then m else μ l

/-- A new object under a label that nothing leads to; some others may be gone. -/
theorem Sim.next (hS : Sim P A Wr μ af a w) {af1 : AF} (hsub : SubF af1 af) {d : Nat} (hd : d < af1.objs.length) (hnone : af1.obj d = none) (hnr : af1.noref d = true) {o : AO} {m : Value} {v : AV} {u : Value}
    (hz : w.heap.size ≤ w'.heap.size) (ha : Agree (okS A μ af) w w') (hkept : ∀ l o b, af1.obj l = some o → blk (μ l) = some b → w'.heap[b]? = w.heap[b]?)
    (hm : ∀ b, blk m = some b → b < w'.heap.size ∧ (w.heap.size ≤ b ∨ ∃ l o, af.obj l = some o ∧ af1.obj l = none ∧ blk (μ l) = some b))
    (hnew : ∀ ok', (∀ b, b < w.heap.size → okS A μ af b → ok' b) → (∀ b, w.heap.size ≤ b → blk m ≠ some b → ok' b) → OA P (upd μ d m) ok' w' d o) (hval : ∀ ok', (∀ b, b < w.heap.size → okS A μ af b → ok' b) → (∀ b, w.heap.size ≤ b → blk m ≠ some b → ok' b) → VA P (upd μ d m) ok' w' v u) :
    Sim P A Wr (upd μ d m) ((af1.putObj d (some o)).put (some d) v) (a.put (some d) u) w' := by
  have hob : ∀ l, ((af1.putObj d (some o)).put (some d) v).obj l = if l = d then some o else af1.obj l := fun l => by rw [obj_put, obj_putObj d _ l hd]
  have hk : ∀ b, b < w.heap.size → okS A μ af b → okS A (upd μ d m) ((af1.putObj d (some o)).put (some d) v) b := by
    intro b hb ⟨h1, h2⟩
    refine ⟨h1, fun l o' ho' => ?_⟩
    rw [hob] at ho'
    unfold upd
    split
    · intro hbm
      rcases (hm b hbm).2 with h | ⟨l', o2, h3, _, h4⟩
      · omega
      · exact h2 l' o2 h3 h4
    · rename_i hl
      rw [if_neg hl] at ho'
      obtain ⟨o2, ho2⟩ := hsub.obj ho'
      exact h2 l o2 ho2
  have hmu : ∀ l, l ≠ d → upd μ d m l = μ l := fun l h => if_neg h
  have hk2 : ∀ b, w.heap.size ≤ b → blk m ≠ some b → okS A (upd μ d m) ((af1.putObj d (some o)).put (some d) v) b := by
    intro b hb hne
    refine ⟨(hS.fr b hb).1, fun l o' ho' => ?_⟩
    rw [hob] at ho'
    unfold upd
    split
    · exact hne
    · rename_i hl
      rw [if_neg hl] at ho'
      obtain ⟨o2, ho2⟩ := hsub.obj ho'
      intro hb2
      have := blk_lt hS ho2 hb2
      omega
  refine ⟨hS.defers, by simp [AF.put, Act.put, AF.putObj, hS.tl, ← hsub.len], ?_, ?_, ?_, ?_, fun b hb => hS.fr b (Nat.le_trans hz hb)⟩
  · intro t x hx
    simp only [AF.put, AF.putObj] at hx
    by_cases hdt : d = t
    · subst hdt
      have hlt : d < af1.tmps.length := by have := (List.getElem?_eq_some_iff.1 hx).1; simpa using this
      rw [List.getElem?_set_self hlt] at hx
      simp at hx; subst hx
      have : d < a.tmps.size := by rw [hS.tl, ← hsub.len]; exact hlt
      have h2 := hval _ hk hk2
      simpa [Act.put, this] using h2
    · rw [List.getElem?_set_ne hdt] at hx
      have hr := noref_tmp hnr hx
      have e : (a.put (some d) u).tmps.getD t undef = a.tmps.getD t undef := by simp [Act.put, Array.getElem?_setIfInBounds_ne hdt]
      rw [e]
      rcases hsub.tmps t x hx with rfl | h
      · trivial
      · exact (hS.tmps t x h).trans (fun l hl => hmu l fun e => hr (e ▸ hl)) ha hk
  · intro l o' ho'
    rw [hob] at ho'
    split at ho'
    · rename_i hl; subst hl
      simp at ho'; subst ho'
      exact hnew _ hk hk2
    · rename_i hl
      cases o' with
      | box cs =>
        obtain ⟨cs', h1, h2, h3⟩ := hsub.box l cs ho'
        obtain ⟨b, us, E, e, hg, hv, h4⟩ := hS.objs l _ h1
        have hv' := VAs_sub hv h2 h3
        exact OA.trans (o := .box cs) ⟨b, us, E, e, hg, hv', h4⟩ (hmu l hl) (fun m' ⟨cs2, e2, hr⟩ => hmu m' fun e3 => by cases e2; exact noref_obj hnr ho' (e3 ▸ hr)) ha hk (fun b hb => hkept l _ b ho' hb)
      | arr e t xs =>
        exact (hS.objs l _ (hsub.arr l e t xs ho')).trans (hmu l hl) (fun m' ⟨cs2, e2, hr⟩ => by cases e2) ha hk (fun b hb => hkept l _ b ho' hb)
  · intro l o' b ho' hb
    rw [hob] at ho'
    unfold upd at hb
    split at hb
    · obtain ⟨h1, h2⟩ := hm b hb
      rcases h2 with h | ⟨l', o2, h3, _, h4⟩
      · exact ⟨(hS.fr b h).2, (hS.fr b h).1, h1⟩
      · obtain ⟨h5, h6, _⟩ := hS.wr l' o2 b h3 h4
        exact ⟨h5, h6, h1⟩
    · rename_i hl
      rw [if_neg hl] at ho'
      obtain ⟨o2, ho2⟩ := hsub.obj ho'
      obtain ⟨h1, h2, h3⟩ := hS.wr l o2 b ho2 hb
      exact ⟨h1, h2, Nat.lt_of_lt_of_le h3 hz⟩
  · intro l l' o1 o2 b h1 h2 hb1 hb2
    have key : ∀ l o1, (if l = d then some o else af1.obj l) = some o1 → l ≠ d → blk (upd μ d m l) = some b → blk m = some b → False := by
      intro l o1 h1 hl hb1 hbm
      rw [if_neg hl] at h1
      rw [hmu l hl] at hb1
      obtain ⟨o3, ho3⟩ := hsub.obj h1
      rcases (hm b hbm).2 with h | ⟨l', o2, h3, h4, h5⟩
      · have := blk_lt hS ho3 hb1; omega
      · have := hS.inj l l' o3 o2 b ho3 h3 hb1 h5
        subst this
        rw [h4] at h1; cases h1
    rw [hob] at h1 h2
    by_cases e1 : l = d
    · by_cases e2 : l' = d
      · rw [e1, e2]
      · exact (key l' o2 h2 e2 hb2 (by rw [e1] at hb1; simpa [upd] using hb1)).elim
    · by_cases e2 : l' = d
      · exact (key l o1 h1 e1 hb1 (by rw [e2] at hb2; simpa [upd] using hb2)).elim
      · rw [if_neg e1] at h1
        rw [if_neg e2] at h2
        rw [hmu l e1] at hb1
        rw [hmu l' e2] at hb2
        obtain ⟨o3, ho3⟩ := hsub.obj h1
        obtain ⟨o4, ho4⟩ := hsub.obj h2
        exact hS.inj l l' o3 o4 b ho3 ho4 hb1 hb2

/-- A store into an object: the others stand. -/
theorem Sim.stored (hS : Sim P A Wr μ af a w) {l : Nat} {o o' : AO} {b : Nat} (ho : af.obj l = some o) (hl : l < af.objs.length) (hb : blk (μ l) = some b) (hz : w'.heap.size = w.heap.size) (hother : ∀ k, k ≠ b → w'.heap[k]? = w.heap[k]?)
    (hnew : Agree (okS A μ af) w w' → OA P μ (okS A μ af) w' l o') : Sim P A Wr μ (af.putObj l (some o')) a w' := by
  have ha : Agree (okS A μ af) w w' := ⟨by omega, fun k hk _ => hother k fun e => by subst e; exact hk.2 l o ho hb⟩
  have hob : ∀ m, (af.putObj l (some o')).obj m = if m = l then some o' else af.obj m := fun m => obj_putObj l _ m hl
  have hlive : ∀ m o1, (af.putObj l (some o')).obj m = some o1 → ∃ o2, af.obj m = some o2 := by
    intro m o1 h
    rw [hob] at h
    split at h
    · rename_i e; subst e; exact ⟨o, ho⟩
    · exact ⟨o1, h⟩
  have hok : okS A μ (af.putObj l (some o')) = okS A μ af := by
    funext k
    apply propext
    constructor
    · rintro ⟨h1, h2⟩
      refine ⟨h1, fun m o1 hm => ?_⟩
      by_cases e : m = l
      · exact h2 m o' (by rw [hob, if_pos e])
      · exact h2 m o1 (by rw [hob, if_neg e]; exact hm)
    · rintro ⟨h1, h2⟩
      refine ⟨h1, fun m o1 hm => ?_⟩
      obtain ⟨o2, h⟩ := hlive m o1 hm
      exact h2 m o2 h
  refine ⟨hS.defers, hS.tl, ?_, ?_, ?_, ?_, fun k hk => hS.fr k (by omega)⟩
  · intro t x hx
    rw [hok]
    exact (hS.tmps t x hx).trans (fun _ _ => rfl) ha (fun _ _ h => h)
  · intro m o1 hm
    rw [hok]
    rw [hob] at hm
    split at hm
    · rename_i e; subst e
      simp at hm; subst hm
      exact hnew ha
    · rename_i e
      exact (hS.objs m o1 hm).trans rfl (fun _ _ => rfl) ha (fun _ _ h => h) (fun k hk => hother k fun e' => e (hS.inj m l o1 o k hm ho hk (e' ▸ hb)))
  · intro m o1 k hm hk
    obtain ⟨o2, h⟩ := hlive m o1 hm
    obtain ⟨h1, h2, h3⟩ := hS.wr m o2 k h hk
    exact ⟨h1, h2, by omega⟩
  · intro m m' o1 o2 k h1 h2 hk hk'
    obtain ⟨o3, h3⟩ := hlive m o1 h1
    obtain ⟨o4, h4⟩ := hlive m' o2 h2
    exact hS.inj m m' o3 o4 k h3 h4 hk hk'

theorem obj_freeze (af : AF) (l m : Nat) (d : AV) : (af.freeze l d).obj m = if m = l then none else (af.obj m).map (AO.frz l d) := by
  unfold AF.freeze AF.obj
  simp only [List.getD, List.getElem?_set, List.length_map, List.getElem?_map]
  by_cases h : l = m
  · subst h
    simp only [if_true]
    split <;> simp
  · have h' : ¬ m = l := fun e => h e.symm
    simp only [h, h', if_false]
    cases hh : af.objs[m]? with
    | none => simp
    | some o => cases o <;> simp

theorem frz_VA {ok ok' : Nat → Prop} {l : Nat} {d x : AV} {u : Value} (h : VA P μ ok w x u) (hk : ∀ b, b < w.heap.size → ok b → ok' b) (hd : VA P μ ok' w d (μ l)) : VA P μ ok' w (AV.frz l d x) u := by
  have gen : VA P μ ok' w (x.scrub l) u := by
    rcases scrub_or l x with e | e
    · rw [e]; trivial
    · rw [e]; exact h.trans (fun _ _ => rfl) (Agree.refl _ _) hk
  cases x with
  | own m =>
    simp only [AV.frz]
    split
    · rename_i e; subst e
      have h : u = μ m := h
      rw [h]; exact hd
    · exact h
  | _ => exact gen
theorem frz_VAs {ok ok' : Nat → Prop} {l : Nat} {d : AV} (hk : ∀ b, b < w.heap.size → ok b → ok' b) (hd : VA P μ ok' w d (μ l)) : ∀ {cs : List AV} {us : List Value}, VAs P μ ok w cs us → VAs P μ ok' w (cs.map (AV.frz l d)) us
  | [], _, h => h
  | c :: cs, _, h => by
    obtain ⟨u, us', rfl, h1, h2⟩ := h
    exact ⟨u, us', rfl, frz_VA h1 hk hd, frz_VAs hk hd h2⟩

/-- A slice's array that becomes data. -/
theorem Sim.freeze (hS : Sim P A Wr μ af a w) {l : Nat} {e : TypeId} {t : Ty} {xs : List t.T} (ho : af.obj l = some (.arr e t xs)) :
    Sim P A Wr μ (af.freeze l (.dat (.list t) xs)) a w ∧ VA P μ (okS A μ (af.freeze l (.dat (.list t) xs))) w (.dat (.list t) xs) (μ l) := by
  have hob := obj_freeze af l
  have hlive : ∀ m o1, (af.freeze l (.dat (.list t) xs)).obj m = some o1 → m ≠ l ∧ ∃ o2, af.obj m = some o2 ∧ o1 = o2.frz l (.dat (.list t) xs) := by
    intro m o1 h
    rw [hob] at h
    split at h
    · cases h
    · rename_i hne
      simp only [Option.map_eq_some_iff] at h
      obtain ⟨o2, h2, e⟩ := h
      exact ⟨hne, o2, h2, e.symm⟩
  have hk : ∀ b, b < w.heap.size → okS A μ af b → okS A μ (af.freeze l (.dat (.list t) xs)) b := by
    rintro b _ ⟨h1, h2⟩
    refine ⟨h1, fun m o1 hm => ?_⟩
    obtain ⟨_, o2, h, _⟩ := hlive m o1 hm
    exact h2 m o2 h
  have hd : VA P μ (okS A μ (af.freeze l (.dat (.list t) xs))) w (.dat (.list t) xs) (μ l) := by
    obtain ⟨cells, h1, h2⟩ := hS.objs l _ ho
    show VRof _ _ _
    simp only [VRof, Ty.isAgg]
    refine arrCR h1 h2 hk fun b hb => ?_
    refine ⟨(hS.wr l _ b ho hb).2.1, fun m o1 hm hbm => ?_⟩
    obtain ⟨hne, o2, h, _⟩ := hlive m o1 hm
    exact hne (hS.inj m l o2 _ b h ho hbm hb)
  refine ⟨⟨hS.defers, by simp [AF.freeze, hS.tl], ?_, ?_, ?_, ?_, hS.fr⟩, hd⟩
  · intro t' x hx
    simp only [AF.freeze, List.getElem?_map, Option.map_eq_some_iff] at hx
    obtain ⟨y, hy, rfl⟩ := hx
    exact frz_VA (hS.tmps t' y hy) hk hd
  · intro m o1 hm
    obtain ⟨_, o2, h, rfl⟩ := hlive m o1 hm
    have := hS.objs m o2 h
    cases o2 with
    | arr _ _ _ => exact this.trans rfl (fun _ _ => rfl) (Agree.refl _ _) hk (fun _ _ => rfl)
    | box cs =>
      obtain ⟨b, us, E, e, hg, hv, h1⟩ := this
      exact ⟨b, us, E, e, hg, frz_VAs hk hd hv, h1⟩
  · intro m o1 b hm hb
    obtain ⟨_, o2, h, _⟩ := hlive m o1 hm
    exact hS.wr m o2 b h hb
  · intro m m' o1 o2 b h1 h2 hb hb'
    obtain ⟨_, o3, h3, _⟩ := hlive m o1 h1
    obtain ⟨_, o4, h4, _⟩ := hlive m' o2 h2
    exact hS.inj m m' o3 o4 b h3 h4 hb hb'
end
end Go.Proofs.Yteldmddnmhmecaa
