/- Operations that only compute or read: what the interpreter says of them is what the model does. -/
import Derived.Test.YteldmddnmhmecaaConf
namespace Go.Proofs.Yteldmddnmhmecaa
open Go.RowKit

section
variable {P : Program} {A Wr : Nat → Prop} {μ : Nat → Value} {af : AF} {a : Act} {w : World} {Γ : Tab} {E : Elems} {R : Type}

theorem VA_int {ok : Nat → Prop} {k : IntKind} {n : Int} {u : Value} : VA P μ ok w (.dat (.int k) n) u ↔ u = .int k n := by
  show VRof _ _ _ ↔ _
  simp only [VRof, Ty.isAgg]
  exact ⟨fun h => by simpa using (show [u] = [Value.int k n] from h), fun h => by subst h; rfl⟩
theorem VA_bool {ok : Nat → Prop} {n : Bool} {u : Value} : VA P μ ok w (.dat .bool n) u ↔ u = .bool n := by
  show VRof _ _ _ ↔ _
  simp only [VRof, Ty.isAgg]
  exact ⟨fun h => by simpa using (show [u] = [Value.bool n] from h), fun h => by subst h; rfl⟩
theorem VA_str {ok : Nat → Prop} {s : List UInt8} {u : Value} : VA P μ ok w (.dat .str s) u ↔ u = .string ⟨s.toArray⟩ := by
  show VRof _ _ _ ↔ _
  simp only [VRof, Ty.isAgg]
  exact ⟨fun h => by simpa using (show [u] = [Value.string ⟨s.toArray⟩] from h), fun h => by subst h; rfl⟩

theorem const_VA (ok : Nat → Prop) (v : Value) : VA P μ ok w (constAV v) v := by
  unfold constAV
  split
  · exact VA_int.2 rfl
  · exact VA_bool.2 rfl
  · exact VA_str.2 (by simp)
  · rfl
  · trivial

theorem AF.get_some {t : Nat} (h : t < af.tmps.length) : af.tmps[t]? = some (af.get t) := by
  simp [AF.get, List.getD, List.getElem?_eq_getElem h]
theorem get_VA (hS : Sim P A Wr μ af a w) (t : Nat) : VA P μ (okS A μ af) w (af.get t) (a.tmps.getD t undef) := by
  by_cases h : t < af.tmps.length
  · exact hS.tmps t _ (AF.get_some h)
  · have : af.get t = .junk := by simp [AF.get, List.getD, List.getElem?_eq_none (Nat.not_lt.1 h)]
    rw [this]; trivial
theorem ev_VA (hS : Sim P A Wr μ af a w) (x : Operand) : VA P μ (okS A μ af) w (af.ev x) (a.eval x) := by
  cases x with
  | tmp t => exact get_VA hS t
  | const v => exact const_VA _ v
  | func f => exact ⟨[], rfl, rfl⟩
  | global g => trivial

theorem okS_put (d : Option Tmp) (v : AV) : okS A μ (af.put d v) = okS A μ af := by
  cases d <;> rfl
theorem obj_put (d : Option Tmp) (v : AV) (l : Nat) : (af.put d v).obj l = af.obj l := by cases d <;> rfl

theorem Sim.put (hS : Sim P A Wr μ af a w) (d : Option Tmp) {v : AV} {u : Value} (h : VA P μ (okS A μ af) w v u) : Sim P A Wr μ (af.put d v) (a.put d u) w := by
  cases d with
  | none => exact hS
  | some d =>
    refine ⟨hS.defers, by simp [AF.put, Act.put, hS.tl], ?_, hS.objs, hS.wr, hS.inj, hS.fr⟩
    intro t x hx
    show VA P μ (okS A μ af) w x _
    simp only [AF.put] at hx
    by_cases hd : d = t
    · subst hd
      have hlt : d < af.tmps.length := by
        have := (List.getElem?_eq_some_iff.1 hx).1
        simpa using this
      rw [List.getElem?_set_self hlt] at hx
      simp at hx; subst hx
      have : d < a.tmps.size := by rw [hS.tl]; exact hlt
      simpa [Act.put, this] using h
    · rw [List.getElem?_set_ne hd] at hx
      have := hS.tmps t x hx
      simpa [Act.put, Array.getElem?_setIfInBounds_ne hd] using this

theorem St.put {w0 : World} (hK : Keeps Wr w0 w) (hS : Sim P A Wr μ af a w) (d : Option Tmp) {v : AV} {u : Value} (h : VA P μ (okS A μ af) w v u) : St P A Wr w0 (af.put d v) (a.put d u) w :=
  ⟨hK, μ, hS.put d h⟩

theorem wp_val {o : Oper} {Q : Exit → Act → World → Prop} {K : Act → World → Prop} {w' : World} {u : Value} (hr : (execOp a.eval o).run P w = .ok (.value u) w') (h : K (a.put o.dst u) w') : o.wp P a w K Q := by
  unfold Oper.wp; rw [hr]; exact h
theorem wp_skip' {o : Oper} {Q : Exit → Act → World → Prop} {K : Act → World → Prop} {w' : World} (hr : (execOp a.eval o).run P w = .ok .skip w') (h : K (a.put o.dst undef) w') : o.wp P a w K Q := by
  unfold Oper.wp; rw [hr]; exact h
theorem run_v {s : Sem Value} {u : Value} {w' : World} (h : s.run P w = .ok u w') : (do pure (Next.value (← s)) : Sem Next).run P w = .ok (.value u) w' := by
  simp [h]
theorem run_u {s : Sem Unit} {w' : World} (h : s.run P w = .ok () w') : (do s; pure Next.skip : Sem Next).run P w = .ok .skip w' := by
  simp [h]

/-- What is asked of an operation that only computes. -/
def Gives (P : Program) (μ : Nat → Value) (ok : Nat → Prop) (w : World) (s : Sem Value) (v : AV) : Prop := ∃ u, s.run P w = .ok u w ∧ VA P μ ok w v u

/-- The same, whatever the world. -/
def GivesA (P : Program) (μ : Nat → Value) (ok : Nat → Prop) (w : World) (s : Sem Value) (v : AV) : Prop := ∃ u, (∀ w', s.run P w' = .ok u w') ∧ VA P μ ok w v u
theorem GivesA.at {ok : Nat → Prop} {s : Sem Value} {K : AV → Option R} {r : R} (h : ∃ z, K z = some r ∧ GivesA P μ ok w s z) : ∃ z, K z = some r ∧ Gives P μ ok w s z :=
  let ⟨z, h1, u, h2, h3⟩ := h; ⟨z, h1, u, h2 w, h3⟩

theorem intBin_ok {ok : Nat → Prop} {op : BinOp} {k : IntKind} {m n : Int} {K : AV → Option R} {r : R} (t : TypeId) (x y : Operand) (h : intBin op k m n K = some r) :
    ∃ v, K v = some r ∧ GivesA P μ ok w (do eqGuard op t x y (.int k m) (.int k n); binOp op t (.int k m) (.int k n)) v := by
  have hg : ∀ op w, (eqGuard op t x y (.int k m) (.int k n)).run P w = .ok () w := by
    intro op w; cases op <;> simp [eqGuard]
  unfold GivesA
  simp only [Sem.run_bind, hg, Result.andThen_ok]
  cases op
  case add =>
    exact ⟨_, h, .int k _, fun w => by simp only [binOp, Op.intArith]; simp, VA_int.2 rfl⟩
  case sub =>
    exact ⟨_, h, .int k _, fun w => by simp only [binOp, Op.intArith]; simp, VA_int.2 rfl⟩
  case mul =>
    exact ⟨_, h, .int k _, fun w => by simp only [binOp, Op.intArith]; simp, VA_int.2 rfl⟩
  case quo =>
    simp only [intBin] at h
    split at h
    · cases h
    · rename_i h0
      exact ⟨_, h, .int k _, fun w => by simp only [binOp, Op.intDiv]; simp [h0], VA_int.2 rfl⟩
  case rem =>
    simp only [intBin] at h
    split at h
    · cases h
    · rename_i h0
      exact ⟨_, h, .int k _, fun w => by simp only [binOp, Op.intDiv]; simp [h0], VA_int.2 rfl⟩
  case and =>
    exact ⟨_, h, .int k _, fun w => by simp only [binOp, intBits_and]; simp, VA_int.2 rfl⟩
  case or =>
    exact ⟨_, h, .int k _, fun w => by simp only [binOp, intBits_or]; simp, VA_int.2 rfl⟩
  case xor =>
    exact ⟨_, h, .int k _, fun w => by simp only [binOp, intBits_xor]; simp, VA_int.2 rfl⟩
  case andNot =>
    exact ⟨_, h, .int k _, fun w => by simp only [binOp, intBits_andNot]; simp, VA_int.2 rfl⟩
  case shl =>
    simp [intBin] at h
  case shr =>
    simp [intBin] at h
  case eql =>
    exact ⟨_, h, .bool _, fun w => by simp only [binOp, Op.intCmp]; simp, VA_bool.2 rfl⟩
  case neq =>
    exact ⟨_, h, .bool _, fun w => by simp only [binOp, Op.intCmp]; simp, VA_bool.2 rfl⟩
  case lss =>
    exact ⟨_, h, .bool _, fun w => by simp only [binOp, Op.intCmp]; simp, VA_bool.2 rfl⟩
  case leq =>
    exact ⟨_, h, .bool _, fun w => by simp only [binOp, Op.intCmp]; simp, VA_bool.2 rfl⟩
  case gtr =>
    exact ⟨_, h, .bool _, fun w => by simp only [binOp, Op.intCmp]; simp, VA_bool.2 rfl⟩
  case geq =>
    exact ⟨_, h, .bool _, fun w => by simp only [binOp, Op.intCmp]; simp, VA_bool.2 rfl⟩

theorem shiftBin_ok {ok : Nat → Prop} {op : BinOp} (hop : op = .shl ∨ op = .shr) {k k' : IntKind} {m n : Int} {K : AV → Option R} {r : R} (t : TypeId) (x y : Operand) (h : shiftBin op k m n K = some r) :
    ∃ v, K v = some r ∧ GivesA P μ ok w (do eqGuard op t x y (.int k m) (.int k' n); binOp op t (.int k m) (.int k' n)) v := by
  unfold shiftBin at h
  split at h
  · cases h
  · rename_i h0
    unfold GivesA
    rcases hop with rfl | rfl <;> simp only at h
    · exact ⟨_, h, _, fun w => by simp [eqGuard, binOp, Op.shift, h0], VA_int.2 rfl⟩
    · exact ⟨_, h, _, fun w => by simp [eqGuard, binOp, Op.shift, h0], VA_int.2 rfl⟩

theorem append_mk (s t : List UInt8) : (⟨s.toArray⟩ : ByteArray) ++ ⟨t.toArray⟩ = ⟨(s ++ t).toArray⟩ := by
  apply ByteArray.ext
  apply Array.toList_inj.1
  rw [ByteArray.toList_data_append]

theorem strBin_ok {ok : Nat → Prop} {op : BinOp} {s t : List UInt8} {K : AV → Option R} {r : R} (id : TypeId) (x y : Operand) (h : strBin op s t K = some r) :
    ∃ v, K v = some r ∧ GivesA P μ ok w (do eqGuard op id x y (.string ⟨s.toArray⟩) (.string ⟨t.toArray⟩); binOp op id (.string ⟨s.toArray⟩) (.string ⟨t.toArray⟩)) v := by
  have hg : ∀ op w, (eqGuard op id x y (.string ⟨s.toArray⟩) (.string ⟨t.toArray⟩)).run P w = .ok () w := by
    intro op w; cases op <;> simp [eqGuard]
  unfold GivesA
  simp only [Sem.run_bind, hg, Result.andThen_ok]
  cases op <;> simp only [strBin] at h <;> try (exfalso; cases h; done)
  · unfold room at h
    split at h
    · rename_i hl
      refine ⟨_, h, _, fun w => ?_, VA_str.2 rfl⟩
      have : ¬ (((⟨s.toArray⟩ : ByteArray).size + (⟨t.toArray⟩ : ByteArray).size : Nat) : Int) > IntKind.i64.max := by
        have e1 : (⟨s.toArray⟩ : ByteArray).size = s.length := by simp [ByteArray.size]
        have e2 : (⟨t.toArray⟩ : ByteArray).size = t.length := by simp [ByteArray.size]
        have e3 : IntKind.i64.max = 9223372036854775807 := by decide
        rw [e1, e2, e3]; omega
      simp only [binOp, Op.stringOp]
      rw [if_neg this, append_mk, Sem.run_pure]
    · cases h
  · exact ⟨_, h, _, fun w => by simp only [binOp, Op.stringOp, ByteArray.toList_mk]; rfl, VA_bool.2 rfl⟩
  · exact ⟨_, h, _, fun w => by simp only [binOp, Op.stringOp, ByteArray.toList_mk]; rfl, VA_bool.2 rfl⟩

theorem binK_ok {ok : Nat → Prop} {op : BinOp} {x y : AV} {u v : Value} {K : AV → Option R} {r : R} (id : TypeId) (ox oy : Operand) (hx : VA P μ ok w x u) (hy : VA P μ ok w y v) (h : binK op x y K = some r) :
    ∃ z, K z = some r ∧ GivesA P μ ok w (do eqGuard op id ox oy u v; binOp op id u v) z := by
  unfold binK at h
  split at h
  · rename_i k m k' n
    rw [VA_int] at hx hy
    subst hx hy
    split at h
    · exact shiftBin_ok (.inl rfl) id ox oy h
    · exact shiftBin_ok (.inr rfl) id ox oy h
    · split at h
      · rename_i hk; subst hk; exact intBin_ok id ox oy h
      · cases h
  · rw [VA_str] at hx hy
    subst hx hy
    exact strBin_ok id ox oy h
  · cases h

theorem binT_ok {ok : Nat → Prop} (hT : tabB P Γ E = true) {op : BinOp} {x y : AV} {u v : Value} {K : AV → Option R} {r : R} (id : TypeId) (ox oy : Operand) (hx : VA P μ ok w x u) (hy : VA P μ ok w y v) (h : binT Γ op id x y K = some r) :
    ∃ z, K z = some r ∧ GivesA P μ ok w (do eqGuard op id ox oy u v; binOp op id u v) z := by
  unfold binT at h
  split at h
  · rename_i c d
    rw [VA_bool] at hx hy
    subst hx hy
    split at h
    · rename_i ht
      have hd := confB_desc (tab_conf hT ht)
      simp only [descB] at hd
      split at hd <;> try (cases hd; done)
      rename_i hu
      unfold GivesA
      split at h
      · exact ⟨_, h, _, fun w => by simp [eqGuard, binOp, run_equal_bool _ _ _ _ hu], VA_bool.2 rfl⟩
      · exact ⟨_, h, _, fun w => by simp [eqGuard, binOp, run_equal_bool _ _ _ _ hu, bne], VA_bool.2 rfl⟩
      · cases h
    · cases h
  · exact binK_ok id ox oy hx hy h

theorem unK_ok {ok : Nat → Prop} {op : UnOp} {x : AV} {u : Value} {K : AV → Option R} {r : R} (hx : VA P μ ok w x u) (h : unK op x K = some r) : ∃ z, K z = some r ∧ GivesA P μ ok w (Op.unary op u) z := by
  unfold unK at h
  split at h
  · rw [VA_bool] at hx; subst hx
    exact ⟨_, h, _, fun _ => rfl, VA_bool.2 rfl⟩
  · rw [VA_int] at hx; subst hx
    exact ⟨_, h, _, fun w => by simp [Op.unary, Op.intArith], VA_int.2 rfl⟩
  · cases h

theorem convK_ok {ok : Nat → Prop} (hT : tabB P Γ E = true) {s t : TypeId} {x : AV} {u : Value} {K : AV → Option R} {r : R} (hx : VA P μ ok w x u) (h : convK Γ s t x K = some r) : ∃ z, K z = some r ∧ GivesA P μ ok w (convert s t u) z := by
  unfold convK at h
  split at h
  · rename_i k n ts k' hs ht
    rw [VA_int] at hx; subst hx
    refine ⟨_, h, _, fun w => ?_, VA_int.2 rfl⟩
    obtain ⟨d, hd, _⟩ := aggB_some (confB_agg (tab_conf hT hs))
    have h2 : P.underlying t = some (.int k') := by
      have := confB_desc (tab_conf hT ht)
      simp only [descB] at this
      split at this
      · rename_i k2 hu; simp at this; subst this; exact hu
      · cases this
    unfold convert
    simp only [Sem.run_bind, run_underlying hd, run_underlying h2, Result.andThen_ok]
    cases d <;> rfl
  · cases h

theorem lenK_ok (hT : tabB P Γ E = true) (hS : Sim P A Wr μ af a w) {x : AV} {u : Value} {K : AV → Option R} {r : R} {t : TypeId} (hx : VA P μ (okS A μ af) w x u)
    (h : lenK Γ af t x K = some r) (ty : TypeId) : ∃ z, K z = some r ∧ Gives P μ (okS A μ af) w (Builtin.len_ #[t] ty #[u]) z := by
  unfold lenK at h
  split at h
  · rename_i te ht
    have hd := confB_desc (tab_conf hT ht)
    simp only [descB] at hd
    split at hd <;> try (cases hd; done)
    rename_i e hu
    have hlen : ∀ a n c, u = .slice a n c → (Builtin.len_ #[t] ty #[u]).run P w = .ok (.int .i64 n) w := by
      rintro a n c rfl; simp [Builtin.len_, run_underlying hu, goInt]
    split at h
    · rename_i t' l
      have hx : VRof _ _ u := hx
      simp only [VRof, Ty.isAgg] at hx
      obtain ⟨v, e, ⟨rfl, a, c, rfl⟩ | ⟨b, o, c, rfl, _⟩⟩ := hx
      · simp at e; subst e
        exact ⟨_, h, _, hlen _ _ _ rfl, VA_int.2 (by simp)⟩
      · simp at e; subst e
        exact ⟨_, h, _, hlen _ _ _ rfl, VA_int.2 rfl⟩
    · have hx : u = _ := hx
      subst hx
      exact ⟨_, h, _, hlen _ _ _ rfl, VA_int.2 rfl⟩
    · rename_i l
      split at h
      · rename_i e t' xs ho
        have hx : u = μ l := hx
        obtain ⟨cells, ⟨_, ⟨hv, hn⟩ | ⟨g, cap, cur, hv, _⟩⟩, _⟩ := hS.objs l _ ho
        · rw [hv] at hx
          exact ⟨_, h, _, hlen _ _ _ hx, VA_int.2 (by simp [hn])⟩
        · rw [hv] at hx
          exact ⟨_, h, _, hlen _ _ _ hx, VA_int.2 rfl⟩
      · cases h
    · cases h
  · rename_i ht
    have hd := confB_desc (tab_conf hT ht)
    simp only [descB] at hd
    split at hd <;> try (cases hd; done)
    rename_i hu
    split at h
    · rw [VA_str] at hx; subst hx
      exact ⟨_, h, _, by simp [Builtin.len_, run_underlying hu, goInt]; rfl, VA_int.2 (by simp [ByteArray.size])⟩
    · cases h
  · cases h

theorem onSome_some {α : Type} {o : Option α} {K : α → Option R} {r : R} (h : onSome o K = some r) : ∃ v, o = some v ∧ K v = some r := by
  unfold onSome at h
  split at h
  · rename_i v; exact ⟨v, rfl, h⟩
  · cases h

theorem idx_some {α : Type} {l : List α} {n : Int} {y : α} (h : idx l n = some y) : 0 ≤ n ∧ n < l.length ∧ l[n.toNat]? = some y := by
  unfold idx at h
  split at h
  · rename_i h0
    have := (List.getElem?_eq_some_iff.1 h).1
    exact ⟨h0, by omega, h⟩
  · cases h

theorem pack_VA {ok : Nat → Prop} {t : Ty} {cs : List AV} {us : List Value} {v : AV} (hp : pack t cs = some v) (hv : VAs P μ ok w cs us) (h1 : ∀ u ∈ us, u.oneCell' = true) : us.length = t.size ∧ (t.isAgg = false → t.size = 1) ∧ VA P μ ok w v (packV t.isAgg us) := by
  unfold pack at hp
  split at hp
  · rename_i hl
    have hlen := VAs.length hv
    have hone : t.isAgg = false → t.size = 1 := by cases t <;> simp [Ty.isAgg, Ty.size]
    refine ⟨by omega, hone, ?_⟩
    cases ht : t.isAgg with
    | true =>
      rw [ht] at hp; simp at hp; subst hp
      exact ⟨us, rfl, hv, h1⟩
    | false =>
      rw [ht] at hp; simp at hp
      have h2 := hone ht
      obtain ⟨c, rfl⟩ : ∃ c, cs = [c] := List.length_eq_one_iff.1 (by omega)
      simp at hp; subst hp
      obtain ⟨u, us', rfl, hu, hr⟩ := hv
      exact hu
  · cases hp

theorem MR_take {b o : Nat} {us : List Value} (h : MR w b o us) (off n : Nat) : MR w b (o + off) ((us.drop off).take n) := by
  intro j u hu
  have : us[off + j]? = some u := by
    have := List.getElem?_take (l := us.drop off) (i := n) (j := j)
    rw [this] at hu
    split at hu
    · simpa using hu
    · cases hu
  have := h (off + j) u this
  rwa [← Nat.add_assoc] at this

theorem MR_row {b : Nat} {us : List Value} {e : TypeId} {fr : Nat × Nat} (hg : w.heap[b]? = some (.cells us.toArray e fr)) : MR w b 0 us := by
  intro j u hu
  rw [cell_of_row w b _ _ e fr hg]
  simpa using hu

theorem packV_VR {ok : Nat → Prop} {t : Ty} {x : t.T} {us : List Value} (h : CR P ok w t x us) : VR P ok w t x (packV t.isAgg us) := by
  show VRof _ _ _
  unfold VRof packV
  split
  · exact ⟨us, rfl, h⟩
  · rename_i ht
    have hl := CR.length t x us h
    have h1 : t.size = 1 := by cases t <;> simp_all [Ty.isAgg, Ty.size]
    obtain ⟨u, rfl⟩ : ∃ u, us = [u] := List.length_eq_one_iff.1 (by omega)
    exact h

theorem loadAt_run {id : TypeId} {t : Ty} (hc : confB P id t = true) {b o : Nat} {us : List Value} (hm : MR w b o us) (hl : us.length = t.size) : (Instr.loadAt id (.pointer (some ⟨b, o, none⟩))).run P w = .ok (packV t.isAgg us) w := by
  have hone : t.isAgg = false → t.size = 1 := by cases t <;> simp [Ty.isAgg, Ty.size]
  simp [Instr.loadAt, Instr.sureAddr, run_loadVarB (confB_size hc) (confB_agg hc) hm hl hone]

theorem arr_MR {ok : Nat → Prop} {base : Nat} {e : TypeId} {t : Ty} {b n c : Nat} {xs : List t.T} {cells : List Value} (h : w.ownsRow base e t.size (.slice (some ⟨b, 0, none⟩) n c) xs.length cells) (hr : RowsR P ok w t xs cells) {i : Nat} {x : t.T} (hx : xs[i]? = some x) :
    ∃ us, MR w b (i * t.size) us ∧ CR P ok w t x us := by
  obtain ⟨hl, ⟨hv, _⟩ | ⟨g, cap, cur, hv, _, hg, hcap, _, hcur, htake⟩⟩ := h
  · cases hv
  · simp at hv
    obtain ⟨rfl, rfl, rfl⟩ := hv
    obtain ⟨hi, e'⟩ := List.getElem?_eq_some_iff.1 hx
    obtain ⟨us, hc, hj⟩ := hr.get i hi
    rw [e'] at hc
    refine ⟨us, fun j u hu => ?_, hc⟩
    rw [cell_of_row w b _ cur e (0, 0) hg]
    have h2 := hj j u hu
    rw [← htake, List.getElem?_take] at h2
    split at h2
    · simpa using h2
    · cases h2

/-- A load of part of a row of data. -/
theorem load_row {ok : Nat → Prop} {id : TypeId} {t t' : Ty} (hc : confB P id t = true) {b o off : Nat} {us : List Value} {x : t'.T} (hm : MR w b o us) (hr : CR P ok w t' x us) {K : AV → Option R} {r : R}
    (h : onSome (pack t (((expl t' x).drop off).take t.size)) K = some r) : ∃ z, K z = some r ∧ Gives P μ ok w (Instr.loadAt id (.pointer (some ⟨b, o + off, none⟩))) z := by
  unfold onSome at h
  split at h
  · rename_i v hp
    have hvs := ((expl_VAs t' x us hr (μ := μ)).drop off).take t.size
    obtain ⟨hl, hone, hv⟩ := pack_VA hp hvs (fun u hu => CR.one t' x us hr u (List.mem_of_mem_drop (List.mem_of_mem_take hu)))
    exact ⟨v, h, _, loadAt_run hc (MR_take hm off t.size) hl, hv⟩
  · cases h

theorem loadK_ok (hT : tabB P Γ E = true) (hS : Sim P A Wr μ af a w) {id : TypeId} {p : AV} {u : Value} {K : AV → Option R} {r : R} (hp : VA P μ (okS A μ af) w p u) (h : loadK Γ af id p K = some r) :
    ∃ z, K z = some r ∧ Gives P μ (okS A μ af) w (Instr.loadAt id u) z := by
  unfold loadK at h
  split at h
  · cases h
  · rename_i t ht
    have hc := tab_conf hT ht
    split at h
    · rename_i l off
      split at h
      · rename_i cs ho
        unfold onSome at h
        split at h
        · rename_i v hpk
          obtain ⟨b, e, rfl⟩ := hp
          obtain ⟨b', us, E', e', hg, hvs, h1⟩ := hS.objs l _ ho
          have hbb : b = b' := by rw [e] at e'; simpa using e'
          subst hbb
          obtain ⟨hl, hone, hv⟩ := pack_VA hpk ((hvs.drop off).take t.size) (fun u hu => h1 u (List.mem_of_mem_drop (List.mem_of_mem_take hu)))
          have hm := MR_take (MR_row hg) off t.size
          rw [Nat.zero_add] at hm
          exact ⟨v, h, _, loadAt_run hc hm hl, hv⟩
        · cases h
      · cases h
    · rename_i t' x off
      obtain ⟨b, o, us, rfl, hok, hlt, hm, hr⟩ := hp
      split at h
      · rename_i hh
        obtain ⟨rfl, rfl⟩ := hh
        exact ⟨_, h, _, loadAt_run hc hm (CR.length _ x us hr), packV_VR hr⟩
      · exact load_row hc hm hr h
    · rename_i t' x
      have hp : VRof _ _ u := hp
      simp only [VRof, Ty.isAgg] at hp
      obtain ⟨b, o, us, e, hok, hlt, hm, hr⟩ := hp
      simp at e; subst e
      split at h
      · rename_i hh
        subst hh
        exact ⟨_, h, _, loadAt_run hc hm (CR.length t' x us hr), packV_VR hr⟩
      · exact load_row (μ := μ) (off := 0) hc hm hr h
    · rename_i l i k off
      split at h
      · rename_i e t' xs ho
        split at h
        · rename_i x hx
          split at h
          · rename_i hk
            subst hk
            obtain ⟨b, n, c, hb, rfl⟩ := hp
            obtain ⟨cells, h3, h4⟩ := hS.objs l _ ho
            rw [hb] at h3
            obtain ⟨us, hm, hr⟩ := arr_MR h3 h4 hx
            split at h
            · rename_i hh
              obtain ⟨rfl, rfl⟩ := hh
              exact ⟨_, h, _, loadAt_run hc hm (CR.length _ x us hr), packV_VR hr⟩
            · exact load_row hc hm hr h
          · cases h
        · cases h
      · cases h
    · cases h

theorem fieldK_ok (hT : tabB P Γ E = true) {ok : Nat → Prop} {id : TypeId} {p : AV} {f : Nat} {u : Value} {K : AV → Option R} {r : R} (hp : VA P μ ok w p u) (h : fieldK Γ id p f K = some r) :
    ∃ z, K z = some r ∧ GivesA P μ ok w (Instr.fieldAt id u f) z := by
  unfold fieldK at h
  split at h
  · cases h
  · rename_i t ht
    have hc := tab_conf hT ht
    split at h
    · cases h
    · rename_i o ft hf
      split at h
      · cases h
      · rename_i hne
        split at h
        · rename_i l off
          obtain ⟨b, e, rfl⟩ := hp
          exact ⟨_, h, _, run_fieldAtB hc hf hne b off, b, e, rfl⟩
        · rename_i t' x off
          obtain ⟨b, o', us, rfl, hok, hlt, hm, hr⟩ := hp
          exact ⟨_, h, _, run_fieldAtB hc hf hne b _, b, o', us, by rw [Nat.add_assoc], hok, hlt, hm, hr⟩
        · rename_i t' x
          have hp : VRof _ _ u := hp
          simp only [VRof, Ty.isAgg] at hp
          obtain ⟨b, o', us, e, hok, hlt, hm, hr⟩ := hp
          simp at e; subst e
          exact ⟨_, h, _, run_fieldAtB hc hf hne b _, b, o', us, rfl, hok, hlt, hm, hr⟩
        · rename_i l i k off
          obtain ⟨b, n, c, hb, rfl⟩ := hp
          exact ⟨_, h, _, run_fieldAtB hc hf hne b _, b, n, c, hb, by rw [Nat.add_assoc]⟩
        · cases h

/-- The cells of a value. -/
theorem cells_VAs {ok : Nat → Prop} {v : AV} {u : Value} {cs : List AV} (hv : VA P μ ok w v u) (hc : v.cells = some cs) (hsl : ∀ l, v = .own l → ∃ a n c, μ l = .slice a n c) : VAs P μ ok w cs u.cells.toList ∧ ∀ x ∈ u.cells.toList, x.oneCell' = true := by
  have one : u.oneCell' = true → cs = [v] → VAs P μ ok w cs u.cells.toList ∧ ∀ x ∈ u.cells.toList, x.oneCell' = true := by
    intro h1 e
    subst e
    rw [Value.cells_one h1]
    exact ⟨⟨u, [], rfl, hv, rfl⟩, by simp [h1]⟩
  cases v with
  | junk => simp [AV.cells] at hc
  | tup _ => simp [AV.cells] at hc
  | dat t x =>
    simp [AV.cells] at hc; subst hc
    have := VR.cells hv
    exact ⟨expl_VAs t x _ this, CR.one t x _ this⟩
  | agg cs' =>
    simp [AV.cells] at hc; subst hc
    obtain ⟨us, rfl, h1, h2⟩ := hv
    exact ⟨by simpa [Value.cells] using h1, by simpa [Value.cells] using h2⟩
  | nils =>
    simp [AV.cells] at hc
    have hv' : u = _ := hv
    exact one (by rw [hv']; rfl) hc.symm
  | bptr l off =>
    simp [AV.cells] at hc
    obtain ⟨b, _, e⟩ := hv
    exact one (by rw [e]; rfl) hc.symm
  | own l =>
    simp [AV.cells] at hc
    have hv' : u = μ l := hv
    obtain ⟨a, n, c, e⟩ := hsl l rfl
    exact one (by rw [hv', e]; rfl) hc.symm
  | eptr l i k off =>
    simp [AV.cells] at hc
    obtain ⟨b, n, c, _, e⟩ := hv
    exact one (by rw [e]; rfl) hc.symm
  | rptr t x off =>
    simp [AV.cells] at hc
    obtain ⟨b, o, us, e, _⟩ := hv
    exact one (by rw [e]; rfl) hc.symm
  | clo f caps =>
    simp [AV.cells] at hc
    obtain ⟨us, e, _⟩ := hv
    exact one (by rw [e]; rfl) hc.symm

theorem aggCells_VAs {ok : Nat → Prop} {v : AV} {u : Value} {cs : List AV} (hv : VA P μ ok w v u) (hc : aggCells v = some cs) : ∃ us, u = .agg us.toArray ∧ VAs P μ ok w cs us ∧ ∀ x ∈ us, x.oneCell' = true := by
  unfold aggCells at hc
  split at hc
  · simp at hc; subst hc
    exact hv
  · rename_i t x
    split at hc
    · rename_i ht
      simp at hc; subst hc
      have hv : VRof t _ u := hv
      rw [VRof, if_pos ht] at hv
      obtain ⟨us, e, hc⟩ := hv
      exact ⟨us, e, expl_VAs t x us hc, CR.one t x us hc⟩
    · cases hc
  · cases hc

theorem partK_ok (hT : tabB P Γ E = true) {ok : Nat → Prop} {id : TypeId} {v : AV} {f : Nat} {u : Value} {K : AV → Option R} {r : R} (hv : VA P μ ok w v u) (h : partK Γ id v f K = some r) :
    ∃ z, K z = some r ∧ GivesA P μ ok w (Instr.field id u f) z := by
  unfold partK at h
  split at h
  · cases h
  · rename_i t ht
    have hc := tab_conf hT ht
    split at h
    · rename_i o ft cs hf hcs
      split at h
      · rename_i hl
        obtain ⟨z, hp, hz⟩ := onSome_some h
        obtain ⟨us, rfl, hvs, h1⟩ := aggCells_VAs hv hcs
        obtain ⟨hlen, hone, hva⟩ := pack_VA hp ((hvs.drop o).take ft.size) (fun u hu => h1 u (List.mem_of_mem_drop (List.mem_of_mem_take hu)))
        refine ⟨z, hz, _, fun w => ?_, hva⟩
        obtain ⟨fs, fd, hu, hfd, rfl, hs, hag⟩ := conf_field hc hf
        simp only [Instr.field, Sem.run_bind, run_underlying hu, Result.andThen_ok, hfd, asAgg, Sem.run_pure, part, run_isAggB hag, packV]
        cases hagg : ft.isAgg with
        | true =>
          simp only [if_true, Sem.run_bind, run_sizeB hs, Result.andThen_ok, Sem.run_pure]
          simp [List.extract_eq_take_drop]
        | false =>
          have h2 := hone hagg
          have : us[fd.offset]? = some ((List.take ft.size (List.drop fd.offset us)).headD undef) := by
            rw [h2] at hlen ⊢
            obtain ⟨y, hy⟩ := List.length_eq_one_iff.1 hlen
            rw [hy]
            have : (List.take 1 (List.drop fd.offset us))[0]? = some y := by rw [hy]; rfl
            simpa using this
          simp [this]
      · cases h
    · cases h

theorem indexAddrK_ok (hT : tabB P Γ E = true) (hS : Sim P A Wr μ af a w) {id : TypeId} {x i : AV} {u v : Value} {K : AV → Option R} {r : R} (hx : VA P μ (okS A μ af) w x u) (hi : VA P μ (okS A μ af) w i v)
    (h : indexAddrK Γ E af id x i K = some r) : ∃ z, K z = some r ∧ GivesA P μ (okS A μ af) w (Instr.indexAt id u v) z := by
  unfold indexAddrK at h
  split at h
  · rename_i t e k n ht he
    rw [VA_int] at hi; subst hi
    have hel := tab_elem hT ht he
    simp only [elemB, Bool.and_eq_true] at hel
    obtain ⟨⟨⟨⟨⟨h1, h2⟩, h3⟩, h4⟩, h5⟩, h6⟩ := hel
    have hu : ∃ e', P.underlying id = some (.slice e') ∧ e' = e := by
      split at h1
      · rename_i e' hu; exact ⟨e', hu, by simpa using h1⟩
      · cases h1
    obtain ⟨e', hu, rfl⟩ := hu
    have run : ∀ b o len cap, 0 ≤ n → n < (len : Nat) → ∀ w, (Instr.indexAt id (.slice (some ⟨b, o, none⟩) len cap) (.int k n)).run P w = .ok (.pointer (some ⟨b, o + n.toNat * t.size, none⟩)) w := by
      intro b o len cap h0 hl w
      simp [Instr.indexAt, asIntOf, run_underlying hu, h0, hl, run_sizeB h2, Addr.add_lit]
    split at h
    · rename_i t' l
      split at h
      · rename_i htt; subst htt
        obtain ⟨y, hy, hk⟩ := onSome_some h
        obtain ⟨h0, hl, hg⟩ := idx_some hy
        have hx : VRof _ _ u := hx
        simp only [VRof, Ty.isAgg] at hx
        obtain ⟨v, e, ⟨rfl, a, c, rfl⟩ | ⟨b, o, c, rfl, hok, hlt, hcap, hcell⟩⟩ := hx
        · simp at hl; omega
        · simp at e; subst e
          refine ⟨_, hk, _, run b o _ c h0 hl, ?_⟩
          obtain ⟨hi, e'⟩ := List.getElem?_eq_some_iff.1 hg
          obtain ⟨us, hm, hr⟩ := hcell n.toNat hi
          rw [e'] at hr
          exact ⟨b, o + n.toNat * t'.size, us, by simp, hok, hlt, hm, hr⟩
      · cases h
    · rename_i l
      split at h
      · rename_i e2 t' xs ho
        split at h
        · rename_i htt; subst htt
          obtain ⟨y, hy, hk⟩ := onSome_some h
          obtain ⟨h0, hl, hg⟩ := idx_some hy
          have hx : u = μ l := hx
          obtain ⟨cells, ⟨_, ⟨hv, hn⟩ | ⟨g, cap, cur, hv, _⟩⟩, _⟩ := hS.objs l _ ho
          · omega
          · rw [hv] at hx; subst hx
            refine ⟨_, hk, _, run g 0 _ cap h0 hl, ?_⟩
            exact ⟨g, _, cap, hv, by simp⟩
        · cases h
      · cases h
    · cases h
  · cases h

theorem indexK_ok (hT : tabB P Γ E = true) {ok : Nat → Prop} {id : TypeId} {x i : AV} {u v : Value} {K : AV → Option R} {r : R} (hx : VA P μ ok w x u) (hi : VA P μ ok w i v)
    (h : indexK Γ id x i K = some r) : ∃ z, K z = some r ∧ Gives P μ ok w (Instr.index id u v) z := by
  unfold indexK at h
  split at h
  · rename_i s k n ht
    rw [VA_str] at hx; subst hx
    rw [VA_int] at hi; subst hi
    obtain ⟨y, hy, hk⟩ := onSome_some h
    obtain ⟨h0, hl, hg⟩ := idx_some hy
    have hd := confB_desc (tab_conf hT ht)
    simp only [descB] at hd
    split at hd <;> try (cases hd; done)
    rename_i hu
    refine ⟨_, hk, .int .u8 y.toNat, ?_, VA_int.2 rfl⟩
    have hg2 : (⟨s.toArray⟩ : ByteArray)[n.toNat]? = some y := by
      obtain ⟨h1, h2⟩ := List.getElem?_eq_some_iff.1 hg
      have h3 : n.toNat < (⟨s.toArray⟩ : ByteArray).size := by simpa [ByteArray.size] using h1
      rw [getElem?_pos (⟨s.toArray⟩ : ByteArray) n.toNat h3, ← h2]
      rfl
    simp [Instr.index, asIntOf, run_underlying hu, h0, hg2]
  · cases h

theorem extractK_ok {ok : Nat → Prop} {x : AV} {i : Nat} {u : Value} {K : AV → Option R} {r : R} (hx : VA P μ ok w x u) (h : extractK x i K = some r) : ∃ z, K z = some r ∧ GivesA P μ ok w (Instr.extract u i) z := by
  unfold extractK at h
  split at h
  · rename_i vs
    obtain ⟨y, hy, hk⟩ := onSome_some h
    obtain ⟨us, rfl, hvs⟩ := hx
    obtain ⟨u, hu, hv⟩ := VAs.get hvs hy
    exact ⟨_, hk, u, fun w => by simp [Instr.extract, hu], hv⟩
  · cases h
end
end Go.Proofs.Yteldmddnmhmecaa
