/- Stores, slices of slices, calls; then every operation. -/
import Derived.Test.YteldmddnmhmecaaWrite
import Derived.Lib.Strings
namespace Go.Proofs.Yteldmddnmhmecaa
open Go.RowKit

section
variable {P : Program} {A Wr : Nat → Prop} {μ : Nat → Value} {af : AF} {a : Act} {w w0 : World} {Γ : Tab} {E : Elems} {R : Type} {σ : FuncId → Option Spec}

theorem obj_lt {l : Nat} {o : AO} (h : af.obj l = some o) : l < af.objs.length := by
  unfold AF.obj at h
  rcases Nat.lt_or_ge l af.objs.length with h1 | h1
  · exact h1
  · simp [List.getD, List.getElem?_eq_none h1] at h

theorem cellsOf_VAs (hS : Sim P A Wr μ af a w) {v : AV} {u : Value} {cs : List AV} (hv : VA P μ (okS A μ af) w v u) (hc : af.cellsOf v = some cs) : VAs P μ (okS A μ af) w cs u.cells.toList ∧ ∀ x ∈ u.cells.toList, x.oneCell' = true := by
  have gen : v.cells = some cs → (∀ l, v = .own l → ∃ a n c, μ l = .slice a n c) → _ := fun h1 h2 => cells_VAs hv h1 h2
  cases v with
  | own l =>
    simp only [AF.cellsOf] at hc
    split at hc
    · rename_i e t xs ho
      obtain ⟨cells, ⟨_, ⟨hm, _⟩ | ⟨g, cap, cur, hm, _⟩⟩, _⟩ := hS.objs l _ ho
      · exact gen hc (fun l' e => by cases e; exact ⟨_, _, _, hm⟩)
      · exact gen hc (fun l' e => by cases e; exact ⟨_, _, _, hm⟩)
    · cases hc
  | _ => exact gen hc (fun l' e => by cases e)

theorem owns_cells {v : AV} {cs : List AV} (hc : af.cellsOf v = some cs) (ho : v.owns = false) : ∀ c ∈ cs, c.owns = false := by
  cases v with
  | agg cs' =>
    simp [AF.cellsOf, AV.cells] at hc; subst hc
    intro c hm
    simp only [AV.owns, List.any_eq_false] at ho
    have := ho c hm
    cases c <;> simp_all [AV.owns]
  | dat t x =>
    simp [AF.cellsOf, AV.cells] at hc; subst hc
    exact expl_owns t x
  | nils => simp [AF.cellsOf, AV.cells] at hc; subst hc; simp [AV.owns]
  | rptr t x off => simp [AF.cellsOf, AV.cells] at hc; subst hc; simp [AV.owns]
  | junk => simp [AF.cellsOf, AV.cells] at hc
  | tup vs => simp [AF.cellsOf, AV.cells] at hc
  | _ => simp [AV.owns] at ho
where expl_owns : ∀ (t : Ty) (x : t.T), ∀ c ∈ expl t x, c.owns = false
  | .unit, _, c, h => by simp [expl] at h
  | .pair p q, x, c, h => by
    rcases List.mem_append.1 h with h | h
    · exact expl_owns p x.1 c h
    · exact expl_owns q x.2 c h
  | .int k, _, c, h => by simp [expl] at h; subst h; rfl
  | .bool, _, c, h => by simp [expl] at h; subst h; rfl
  | .str, _, c, h => by simp [expl] at h; subst h; rfl
  | .list t, _, c, h => by simp [expl] at h; subst h; rfl
  | .ptr t, _, c, h => by simp [expl] at h; subst h; rfl
  | .fn _ _, _, c, h => by simp [expl] at h; subst h; rfl

theorem RowsR.split {ok : Nat → Prop} {t : Ty} : ∀ {xs : List t.T} {cs : List Value} {i : Nat} {x : t.T}, RowsR P ok w t xs cs → xs[i]? = some x →
    ∃ c1 us c2, cs = c1 ++ us ++ c2 ∧ c1.length = i * t.size ∧ CR P ok w t x us ∧ ∀ y us', CR P ok w t y us' → RowsR P ok w t (xs.set i y) (c1 ++ us' ++ c2)
  | [], _, _, _, _, h => by simp at h
  | x :: xs, _, 0, x', h, hx => by
    simp at hx; subst hx
    obtain ⟨u1, u2, rfl, h1, h2⟩ := h
    exact ⟨[], u1, u2, rfl, by simp, h1, fun y us' hy => ⟨us', u2, rfl, hy, h2⟩⟩
  | x :: xs, _, i + 1, x', h, hx => by
    obtain ⟨u1, u2, rfl, h1, h2⟩ := h
    obtain ⟨c1, us, c2, rfl, hl, hc, hy⟩ := RowsR.split h2 (by simpa using hx)
    refine ⟨u1 ++ c1, us, c2, by simp, by simp [hl, CR.length t x u1 h1, Nat.add_mul, Nat.add_comm], hc, fun y us' h => ?_⟩
    exact ⟨u1, c1 ++ us' ++ c2, by simp, h1, hy y us' h⟩

theorem list_store (c1 us c2 rest xc : List Value) (off n : Nat) (hn : xc.length = n) (hf : off + n ≤ us.length) :
    ((c1 ++ us ++ c2 ++ rest).take (c1.length + off) ++ xc ++ (c1 ++ us ++ c2 ++ rest).drop (c1.length + off + n)).take (c1 ++ us ++ c2).length = c1 ++ (us.take off ++ xc ++ us.drop (off + n)) ++ c2 := by
  have e0 : c1 ++ us ++ c2 ++ rest = c1 ++ (us ++ (c2 ++ rest)) := by simp
  have e1 : (c1 ++ (us ++ (c2 ++ rest))).take (c1.length + off) = c1 ++ us.take off := by
    rw [List.take_length_add_append, List.take_append_of_le_length (by omega)]
  have e2 : (c1 ++ (us ++ (c2 ++ rest))).drop (c1.length + off + n) = us.drop (off + n) ++ (c2 ++ rest) := by
    rw [Nat.add_assoc, List.drop_length_add_append, List.drop_append_of_le_length (by omega)]
  rw [e0, e1, e2]
  have e3 : c1 ++ us.take off ++ xc ++ (us.drop (off + n) ++ (c2 ++ rest)) = (c1 ++ (us.take off ++ xc ++ us.drop (off + n)) ++ c2) ++ rest := by simp
  rw [e3]
  refine List.take_left' ?_
  simp; omega

theorem storeK_ok (hT : tabB P Γ E = true) (hK : Keeps Wr w0 w) (hS : Sim P A Wr μ af a w) {id : TypeId} {p v : AV} {u x : Value} {K : AF → Option R} {r : R} (hp : VA P μ (okS A μ af) w p u) (hv : VA P μ (okS A μ af) w v x)
    (h : storeK Γ af id p v K = some r) : ∃ w', (Instr.storeAt id u x).run P w = .ok () w' ∧ PK P A Wr w0 K r a w' := by
  unfold storeK at h
  split at h
  · rename_i t vs ht hvs
    have hc := tab_conf hT ht
    obtain ⟨hva, hone⟩ := cellsOf_VAs hS hv hvs
    have hlen := VAs.length hva
    simp only [Array.length_toList] at hlen
    split at h
    · rename_i hsz
      split at h
      · rename_i l off
        split at h
        · rename_i cs ho
          split at h
          · rename_i hfit
            obtain ⟨b, e, rfl⟩ := hp
            obtain ⟨b', us, E', e', hg, hvs', h1⟩ := hS.objs l _ ho
            have hbb : b = b' := by rw [e] at e'; simpa using e'
            subst hbb
            have hl2 := VAs.length hvs'
            have hrun := run_storeVarB (confB_size hc) hg (v := x) (o := off) (by omega) hone (by simp; omega)
            refine ⟨_, by simp [Instr.storeAt, Instr.sureAddr, hrun]; rfl, _, h, hK.trans (Keeps.setRow Wr w b _ (hS.wr l _ b ho (by rw [e]; rfl)).1), μ, ?_⟩
            refine hS.stored ho (obj_lt ho) (b := b) (by rw [e]; rfl) (by simp) (fun k hk => ?_) (fun ha => ?_)
            · have hne : ¬ b = k := fun e => hk e.symm
              simp [World.setRow, Array.getElem?_modify, hne]
            · refine ⟨b, us.take off ++ x.cells.toList ++ us.drop (off + t.size), E', e, ?_, ?_, ?_⟩
              · have := setRow_heap w b us.toArray (us.take off ++ x.cells.toList ++ us.drop (off + t.size)).toArray E' (0, 0) hg
                simpa using this
              · unfold putAt
                rw [hsz]
                exact VAs.trans (VAs.app (VAs.app (hvs'.take off) hva) (hvs'.drop _)) (fun _ _ => rfl) ha (fun _ _ h => h)
              · intro u hu
                rcases List.mem_append.1 hu with hu | hu
                · rcases List.mem_append.1 hu with hu | hu
                  · exact h1 u (List.mem_of_mem_take hu)
                  · exact hone u hu
                · exact h1 u (List.mem_of_mem_drop hu)
          · cases h
        · cases h
      · rename_i l i k off
        split at h
        · rename_i e t' xs ho
          split at h
          · rename_i x0 hx0
            split at h
            · rename_i y hy
              split at h
              · rename_i hh
                obtain ⟨rfl, hfit, hno⟩ := hh
                obtain ⟨b, n, c, hb, rfl⟩ := hp
                obtain ⟨cells, ⟨hcl, ⟨hm, _⟩ | ⟨g, cap, cur, hm, hb0, hg, hncap, hcm, hcs, htake⟩⟩, hrows⟩ := hS.objs l _ ho
                · rw [hb] at hm; cases hm
                · rw [hb] at hm
                  simp at hm
                  obtain ⟨rfl, hn, rfl⟩ := hm
                  obtain ⟨c1, us, c2, hce, hc1, hcr, hset⟩ := hrows.split hx0
                  have hul := CR.length t' x0 us hcr
                  have hcur : cells.length ≤ cur.size := by rw [← htake]; simp; omega
                  have hce' : cells.length = c1.length + us.length + c2.length := by rw [hce]; simp [Nat.add_assoc]
                  have hrun := run_storeVarB (confB_size hc) hg (v := x) (o := i * t'.size + off) (by omega) hone (by omega)
                  have hex := expl_VAs (μ := μ) t' x0 us hcr
                  have hpa : VAs P μ (okS A μ af) w (putAt (expl t' x0) vs off) (us.take off ++ x.cells.toList ++ us.drop (off + t.size)) := by
                    unfold putAt
                    rw [hsz]
                    exact VAs.app (VAs.app (hex.take off) hva) (hex.drop _)
                  obtain ⟨u1, u2, ds, hu12, _, hcry, hr2⟩ := imp_CR hS (fun _ h => h) t' hy hpa (fun ⟨c, hc, hoc⟩ => by
                    unfold putAt at hc
                    rcases List.mem_append.1 hc with hc | hc
                    · rcases List.mem_append.1 hc with hc | hc
                      · rw [owns_cells.expl_owns t' x0 c (List.mem_of_mem_take hc)] at hoc; cases hoc
                      · rw [owns_cells hvs hno c hc] at hoc; cases hoc
                    · rw [owns_cells.expl_owns t' x0 c (List.mem_of_mem_drop hc)] at hoc; cases hoc)
                  have hr2 : u2 = [] := hr2
                  subst hr2
                  rw [List.append_nil] at hu12
                  rw [← hu12] at hcry
                  have hrows' := hset y _ hcry
                  refine ⟨_, by simp [Instr.storeAt, Instr.sureAddr, hrun]; rfl, _, h, hK.trans (Keeps.setRow Wr w b _ (hS.wr l _ b ho (by rw [hb]; rfl)).1), μ, ?_⟩
                  refine hS.stored ho (obj_lt ho) (b := b) (by rw [hb]; rfl) (by simp) (fun k hk => ?_) (fun ha => ?_)
                  · have hne : ¬ b = k := fun e => hk e.symm
                    simp [World.setRow, Array.getElem?_modify, hne]
                  · refine ⟨_, ?_, hrows'.mono ha (fun _ _ h => h)⟩
                    have hlr := hrows'.length
                    refine ⟨hlr, .inr ⟨b, c, _, by rw [hb, List.length_set, hn], Nat.zero_le _, setRow_heap w b cur _ e (0, 0) hg, by rw [List.length_set]; omega, hcm, ?_, ?_⟩⟩
                    · simp; omega
                    · have hlc : cur.toList = cells ++ cur.toList.drop (xs.length * t'.size) := by
                        rw [← htake]; exact (List.take_append_drop _ _).symm
                      rw [List.length_set, ← hcl, hlc, hce, ← hc1]
                      have := list_store c1 us c2 (cur.toList.drop (xs.length * t'.size)) x.cells.toList off t.size (by simp; omega) (by omega)
                      simpa using this
              · cases h
            · cases h
          · cases h
        · cases h
      · cases h
    · cases h
  · cases h

theorem bounds_some {n : Nat} {lo hi : Option AV} {p : Nat × Nat} (h : bounds n lo hi = some p) :
    ∃ x y : Int, bndOr 0 lo = some x ∧ bndOr n hi = some y ∧ 0 ≤ x ∧ x ≤ y ∧ y ≤ n ∧ p = (x.toNat, y.toNat) := by
  unfold bounds at h
  split at h
  · rename_i x y hx hy
    split at h
    · rename_i hh
      simp at h; subst h
      exact ⟨x, y, hx, hy, hh.1, hh.2.1, hh.2.2, rfl⟩
    · cases h
  · cases h

theorem optInt_val {ok : Nat → Prop} {v : AV} {n : Int} {u : Value} (h : optInt v = some n) (hv : VA P μ ok w v u) : ∃ k, u = .int k n := by
  unfold optInt at h
  split at h
  · rename_i k m
    have h : m = n := by simpa using h
    rw [VA_int] at hv
    exact ⟨k, by rw [hv, h]⟩
  · cases h

/-- The bounds, in the model. -/
theorem run_bounds {ok : Nat → Prop} {n cap : Nat} {sl : Bool} {lo hi : Option AV} {p : Nat × Nat} {ulo uhi : Option Value} (h : bounds n lo hi = some p) (hcap : n ≤ cap) (hlo : ∀ v, lo = some v → ∃ u, ulo = some u ∧ VA P μ ok w v u) (hlo' : lo = none → ulo = none)
    (hhi : ∀ v, hi = some v → ∃ u, uhi = some u ∧ VA P μ ok w v u) (hhi' : hi = none → uhi = none) :
    (Instr.sliceBounds sl n cap ulo uhi none).run P w = .ok (p.1, p.2, cap) w ∧ p.1 ≤ p.2 ∧ p.2 ≤ n := by
  obtain ⟨x, y, hx, hy, h0, h1, h2, rfl⟩ := bounds_some h
  refine ⟨?_, by simp; omega, by simp; omega⟩
  have bound : ∀ {v : AV} {u : Value} {n : Int} (m : Nat) (c : BoundsCode), optInt v = some n → VA P μ ok w v u → 0 ≤ n → n ≤ m → (Instr.sliceBound u m c).run P w = .ok n.toNat w := by
    intro v u n m c h1 h2 h3 h4
    obtain ⟨k, rfl⟩ := optInt_val h1 h2
    simp [Instr.sliceBound, asIntOf, h3, h4]
  have hyc : y ≤ (cap : Int) := by omega
  have hy0 : 0 ≤ y := by omega
  have hxy : x ≤ (y.toNat : Int) := by omega
  cases hi with
  | none =>
    obtain rfl := hhi' rfl
    simp [bndOr] at hy
    subst hy
    cases lo with
    | none =>
      obtain rfl := hlo' rfl
      simp [bndOr] at hx
      subst hx
      simp [Instr.sliceBounds]
    | some v =>
      obtain ⟨u, rfl, hv⟩ := hlo v rfl
      have := bound n .sliceB hx hv h0 h1
      simp [Instr.sliceBounds, this]
  | some v2 =>
    obtain ⟨u2, rfl, hv2⟩ := hhi v2 rfl
    have hb := bound cap (if sl then .sliceAcap else .sliceAlen) hy hv2 hy0 hyc
    cases lo with
    | none =>
      obtain rfl := hlo' rfl
      simp [bndOr] at hx
      subst hx
      simp [Instr.sliceBounds, hb]
    | some v =>
      obtain ⟨u, rfl, hv⟩ := hlo v rfl
      have := bound y.toNat .sliceB hx hv h0 hxy
      simp [Instr.sliceBounds, hb, this]

theorem slice_list {ok : Nat → Prop} {t : Ty} {l : List t.T} {v : Value} {x y : Nat} (hv : CR P ok w (.list t) l [v]) (hxy : x ≤ y) (hy : y ≤ l.length) :
    ∃ b n cap, v = .slice b n cap ∧ n = l.length ∧ n ≤ cap ∧ CR P ok w (.list t) ((l.take y).drop x) [.slice (if cap = x then b else b.map (·.add (x * t.size))) (y - x) (cap - x)] := by
  obtain ⟨v', e, ⟨rfl, b, cap, rfl⟩ | ⟨b, o, cap, rfl, hok, hlt, hcap, hcell⟩⟩ := hv
  · simp at e; subst e
    simp at hy; subst hy
    have : x = 0 := by omega
    subst this
    exact ⟨b, 0, cap, rfl, rfl, Nat.zero_le _, _, rfl, .inl ⟨by simp, _, _, rfl⟩⟩
  · simp at e; subst e
    refine ⟨_, _, cap, rfl, rfl, hcap, ?_⟩
    by_cases hxe : x = y
    · subst hxe
      exact ⟨_, rfl, .inl ⟨by simp, _, _, by rw [Nat.sub_self]⟩⟩
    · have hne : ¬ cap = x := by omega
      rw [if_neg hne]
      have hlen : ((l.take y).drop x).length = y - x := by simp; omega
      refine ⟨_, rfl, .inr ⟨b, o + x * t.size, cap - x, by simp [hlen, Addr.add_lit], hok, hlt, by omega, fun i hi => ?_⟩⟩
      have hi' : x + i < l.length := by omega
      obtain ⟨us, hm, hr⟩ := hcell (x + i) hi'
      refine ⟨us, by rw [show o + x * t.size + i * t.size = o + (x + i) * t.size from by rw [Nat.add_mul]; omega]; exact hm, ?_⟩
      have : ((l.take y).drop x)[i] = l[x + i] := by simp
      rw [this]; exact hr

theorem sliceK_ok (hT : tabB P Γ E = true) (hK : Keeps Wr w0 w) (hS : Sim P A Wr μ af a w) {d : Option Tmp} {id : TypeId} {x : AV} {lo hi : Option AV} {u : Value} {ulo uhi : Option Value} {K : AF → Option R} {r : R} (hx : VA P μ (okS A μ af) w x u)
    (hlo : ∀ v, lo = some v → ∃ u, ulo = some u ∧ VA P μ (okS A μ af) w v u) (hlo' : lo = none → ulo = none) (hhi : ∀ v, hi = some v → ∃ u, uhi = some u ∧ VA P μ (okS A μ af) w v u) (hhi' : hi = none → uhi = none)
    (h : sliceK Γ E af id x lo hi (fun af' v => K (af'.put d v)) = some r) : ∃ z, (Instr.sliceAt id u ulo uhi none).run P w = .ok z w ∧ PK P A Wr w0 K r (a.put d z) w := by
  unfold sliceK at h
  split at h
  · rename_i t ht
    split at h
    · cases h
    · rename_i e he
      obtain ⟨hu, hs, hag, hzb, hpos, _⟩ := elemB_parts (tab_elem hT ht he)
      have run : ∀ {ok : Nat → Prop} {l : List t.T} {p : Nat × Nat}, CR P ok w (.list t) l [u] → bounds l.length lo hi = some p → ∃ z, (Instr.sliceAt id u ulo uhi none).run P w = .ok z w ∧ CR P ok w (.list t) ((l.take p.2).drop p.1) [z] := by
        intro ok l p hcr hb
        obtain ⟨x, y, _, _, h0, h1, h2, hp⟩ := bounds_some hb
        have hp1 : p.1 ≤ p.2 := by rw [hp]; simp; omega
        have hp2 : p.2 ≤ l.length := by rw [hp]; simp; omega
        obtain ⟨b, n, cap, rfl, rfl, hcap, hres⟩ := slice_list hcr hp1 hp2
        obtain ⟨hrun, _, _⟩ := run_bounds (sl := true) hb hcap hlo hlo' hhi hhi'
        refine ⟨_, ?_, hres⟩
        simp only [Instr.sliceAt, Sem.run_bind, run_underlying hu, Result.andThen_ok, Instr.slice, hrun, run_sizeB hs, Sem.run_pure]
      split at h
      · rename_i t' l
        split at h
        · rename_i htt; subst htt
          obtain ⟨p, hp, hk⟩ := onSome_some h
          have hx : VRof _ _ u := hx
          simp only [VRof, Ty.isAgg] at hx
          obtain ⟨z, hrun, hz⟩ := run hx hp
          exact ⟨z, hrun, _, hk, St.put hK hS d (show VRof _ _ z from hz)⟩
        · cases h
      · rename_i m
        split at h
        · rename_i e' t' l ho
          split at h
          · rename_i htt; subst htt
            obtain ⟨p, hp, hk⟩ := onSome_some h
            obtain ⟨hS', hv⟩ := hS.freeze ho
            have hx : u = μ m := hx
            rw [← hx] at hv
            have hv : VRof _ _ u := hv
            simp only [VRof, Ty.isAgg] at hv
            obtain ⟨z, hrun, hz⟩ := run hv hp
            exact ⟨z, hrun, _, hk, St.put hK hS' d (show VRof _ _ z from hz)⟩
          · cases h
        · cases h
      · cases h
  · rename_i ht
    have hd := confB_desc (tab_conf hT ht)
    simp only [descB] at hd
    split at hd <;> try (cases hd; done)
    rename_i hu
    split at h
    · rename_i s
      rw [VA_str] at hx; subst hx
      obtain ⟨p, hp, hk⟩ := onSome_some h
      have hsz : (⟨s.toArray⟩ : ByteArray).size = s.length := by simp [ByteArray.size]
      have hrun := (run_bounds (sl := false) (cap := s.length) hp (Nat.le_refl _) hlo hlo' hhi hhi').1
      refine ⟨.string ((⟨s.toArray⟩ : ByteArray).extract p.1 p.2), ?_, _, hk, St.put hK hS d (VA_str.2 ?_)⟩
      · simp [Instr.sliceAt, Sem.run_bind, run_underlying hu, Instr.slice, hsz, hrun]
      · congr 1
        apply ByteArray.ext
        apply Array.toList_inj.1
        rw [Lib.extract_data]
        simp [List.drop_take]
    · cases h
  · cases h

theorem isOne_pair {r : Ty} (h : isOne r = true) : ∃ t, r = .pair t .unit := by
  unfold isOne at h
  split at h
  · exact ⟨_, rfl⟩
  · cases h

theorem resTup_VAs {ok : Nat → Prop} : ∀ (r : Ty) {y : r.T} {rs : List Value}, AR P ok w r y rs → VAs P μ ok w (resTup r y) rs
  | .unit, _, rs, h => by have h : rs = [] := h; subst h; rfl
  | .pair t r, y, rs, h => by
    obtain ⟨v, vs, rfl, h1, h2⟩ := h
    exact ⟨v, vs, rfl, h1, resTup_VAs r h2⟩
  | .int _, _, _, h => by have h : False := h; exact h.elim
  | .bool, _, _, h => by have h : False := h; exact h.elim
  | .str, _, _, h => by have h : False := h; exact h.elim
  | .list _, _, _, h => by have h : False := h; exact h.elim
  | .fn _ _, _, _, h => by have h : False := h; exact h.elim
  | .ptr _, _, _, h => by have h : False := h; exact h.elim

theorem resAV_VA {ok : Nat → Prop} {r : Ty} {y : r.T} {rs : List Value} (h : AR P ok w r y rs) : VA P μ ok w (resAV r y) (if isOne r then rs.headD undef else .tuple rs.toArray) := by
  have := resTup_VAs (μ := μ) r h
  unfold resAV
  split
  · rename_i h1
    obtain ⟨t, rfl⟩ := isOne_pair h1
    obtain ⟨v, vs, rfl, h2, h3⟩ := h
    exact h2
  · exact ⟨rs, rfl, this⟩

theorem ev_VAs (hS : Sim P A Wr μ af a w) : ∀ (xs : List Operand), VAs P μ (okS A μ af) w (xs.map af.ev) (xs.map a.eval)
  | [] => rfl
  | x :: xs => ⟨_, _, rfl, ev_VA hS x, ev_VAs hS xs⟩

/-- What a call may touch: all data, and the objects of the call's own. -/
def okAll (A : Nat → Prop) (μ : Nat → Value) (af : AF) (b : Nat) : Prop := okS A μ af b ∨ ∃ l o, af.obj l = some o ∧ blk (μ l) = some b

theorem RowsR.flat {ok ok' : Nat → Prop} {w' : World} {t : Ty} (hf : t.flat = true) : ∀ {xs : List t.T} {cs : List Value}, RowsR P ok w t xs cs → RowsR P ok' w' t xs cs
  | [], _, h => h
  | _ :: _, _, h => by
    obtain ⟨u1, u2, e, h1, h2⟩ := h
    exact ⟨u1, u2, e, (REL.flat t _ hf).1 _ h1, RowsR.flat hf h2⟩

/-- A result that is a slice of the callee's own making. -/
theorem Sim.ownRes (hS : Sim P A Wr μ af a w) {w' : World} (hkp : Keeps noB w w') {d : Nat} (hn : af.obj d = none) (hd : d < af.objs.length) (hnr : af.noref d = true) {e : TypeId} {t r : Ty} {l : List t.T} {y : r.T} {okr : Nat → Prop} {v0 : Value} {vs : List Value}
    (hown : OwnV P okr w.heap.size w' e (.list t) l v0) (hrest : AR P (fun b => okr b ∧ blk v0 ≠ some b) w' r y vs)
    (hok : (t.flat = true ∧ r.flat = true) ∨ ∀ b, okr b → (b < w.heap.size → okS A μ af b)) :
    Sim P A Wr (upd μ d v0) ((af.putObj d (some (.arr e t l))).put (some d) (if isOne (.pair (.list t) r) then .own d else .tup (.own d :: resTup r y))) (a.put (some d) (if isOne (.pair (.list t) r) then (v0 :: vs).headD undef else .tuple (v0 :: vs).toArray)) w' := by
  obtain ⟨cells, hrow, hrows⟩ := hown
  refine hS.next (SubF.refl af) hd hn hnr hkp.size (hkp.agree fun _ _ _ h => h) (fun l o b ho hb => hkp.block b (blk_lt hS ho hb) id) ?_ ?_ ?_
  · intro b hb
    obtain ⟨_, ⟨rfl, _⟩ | ⟨g, cap, cur, rfl, hbase, hgg, _⟩⟩ := hrow
    · simp [blk] at hb
    · simp [blk] at hb; subst hb
      exact ⟨(Array.getElem?_eq_some_iff.1 hgg).1, .inl hbase⟩
  · intro ok' h1 h2
    refine ⟨cells, ?_, ?_⟩
    · obtain ⟨h3, h4⟩ := hrow
      refine ⟨h3, ?_⟩
      rcases h4 with h4 | ⟨g, cap, cur, hv, _, h5⟩
      · exact .inl ⟨by simpa [upd] using h4.1, h4.2⟩
      · exact .inr ⟨g, cap, cur, by simpa [upd] using hv, Nat.zero_le _, h5⟩
    · rcases hok with ⟨hf, _⟩ | hok
      · exact hrows.flat hf
      · refine hrows.mono (Agree.refl _ _) fun b _ ⟨h3, h4⟩ => ?_
        rcases Nat.lt_or_ge b w.heap.size with hlt | hge
        · exact h1 b hlt (hok b h3 hlt)
        · exact h2 b hge h4
  · intro ok' h1 h2
    have hr' : AR P ok' w' r y vs := by
      rcases hok with ⟨_, hf⟩ | hok
      · exact (REL.flat r y hf).2 _ hrest
      · refine (REL.mono r y (Agree.refl _ _) fun b _ hb => ?_).2 _ hrest
        rcases Nat.lt_or_ge b w.heap.size with hlt | hge
        · exact h1 b hlt (hok b hb.1 hlt)
        · exact h2 b hge hb.2
    have hv0 : VA P (upd μ d v0) ok' w' (.own d) v0 := by show v0 = upd μ d v0 d; simp [upd]
    split
    · exact hv0
    · exact ⟨v0 :: vs, rfl, v0, vs, rfl, hv0, resTup_VAs r hr'⟩

theorem callK_ok (hσ : ∀ f s, σ f = some s → FnOK P f s) (hK : Keeps Wr w0 w) (hS : Sim P A Wr μ af a w) {d : Option Tmp} {f : FuncId} {s : Spec} (hs : FnOK P f s) {args : List AV} {vals : List Value} (hv : VAs P μ (okS A μ af) w args vals) {K : AF → Option R} {r : R}
    (h : callK σ af d s args K = some r) : Calls P f vals.toArray w fun e w' => ∃ v, e = .returned v ∧ PK P A Wr w0 K r (a.put d v) w' := by
  unfold callK at h
  split at h
  · cases h
  · rename_i x hx
    split at h
    · cases h
    · rename_i hown
      split at h
      · cases h
      · rename_i y hy
        by_cases hany : args.any AV.owns = true
        · have har := getArgs_AR (ok2 := okAll A μ af) hS hσ (fun _ h => .inl h) s.a hx hv (fun _ l o b h1 h2 => .inr ⟨l, o, h1, h2⟩)
          refine (hs.2 w _ vals x y har hy).mono ?_
          rintro e w' ⟨v, rfl, hkp, rs, rfl, hres⟩
          refine ⟨_, rfl, ?_⟩
          have hS' := hS.grow hkp
          have hKK : Keeps Wr w0 w' := hK.trans (hkp.mono fun _ _ h => h.elim)
          have hfr : ∀ b, w.heap.size ≤ b → okS A μ af b := fun b hb => ⟨(hS.fr b hb).1, fun l o ho hb' => by have := blk_lt hS ho hb'; omega⟩
          split at h
          · rename_i hso
            rw [hso] at hres
            have hflat : s.r.flat = true ∨ s.fresh = true := by
              simp only [hany, Spec.lends, hso] at hown
              simp at hown
              by_cases hf : s.r.flat = true
              · exact .inl hf
              · exact .inr (hown (by simpa using hf))
            have har' : AR P (okS A μ af) w' s.r y rs := by
              rcases hflat with hf | hf
              · exact (REL.flat s.r y hf).2 _ hres
              · refine (REL.mono s.r y (Agree.refl _ _) (fun b _ hb => ?_)).2 _ hres
                rcases hb with ⟨h1, _⟩ | hb
                · rw [hf] at h1; cases h1
                · exact hfr b hb
            exact ⟨_, h, St.put hKK hS' d (resAV_VA har')⟩
          · rename_i e hso
            obtain ⟨sa, sr, sfn, sfresh, sown⟩ := s
            simp only at hso hres h y
            subst hso
            split at h
            · rename_i t l rest hrt
              cases sr <;> simp only [resTup] at hrt <;> try (cases hrt; done)
              rename_i t0 r0
              simp only [List.cons.injEq, AV.dat.injEq] at hrt
              obtain ⟨⟨e1, e2⟩, e3⟩ := hrt
              subst e1
              simp only [heq_eq_eq] at e2
              obtain ⟨v0, vs, rfl, hov, hrest⟩ := hres
              obtain ⟨d', rfl, hn', hd, hnr, hr, hk⟩ := newK_some h
              subst e2 e3
              refine ⟨_, hk, hKK, upd μ d' v0, ?_⟩
              exact hS.ownRes hkp hn' hd hnr hov hrest (.inl (by simp [hany, Spec.lends, Spec.ownFlat] at hown; exact hown))
            · cases h
        · have hno : args.any AV.owns = false := by simpa using hany
          have har := getArgs_AR (ok2 := okS A μ af) hS hσ (fun _ h => h) s.a hx hv (fun h => by rw [hno] at h; cases h)
          refine (hs.2 w _ vals x y har hy).mono ?_
          rintro e w' ⟨v, rfl, hkp, rs, rfl, hres⟩
          refine ⟨_, rfl, ?_⟩
          have hS' := hS.grow hkp
          have hKK : Keeps Wr w0 w' := hK.trans (hkp.mono fun _ _ h => h.elim)
          have hfr : ∀ b, w.heap.size ≤ b → okS A μ af b := fun b hb => ⟨(hS.fr b hb).1, fun l o ho hb' => by have := blk_lt hS ho hb'; omega⟩
          split at h
          · rename_i hso
            rw [hso] at hres
            have har' : AR P (okS A μ af) w' s.r y rs := by
              refine (REL.mono s.r y (Agree.refl _ _) (fun b _ hb => ?_)).2 _ hres
              rcases hb with ⟨_, h1⟩ | hb
              · exact h1
              · exact hfr b hb
            exact ⟨_, h, St.put hKK hS' d (resAV_VA har')⟩
          · rename_i e hso
            obtain ⟨sa, sr, sfn, sfresh, sown⟩ := s
            simp only at hso hres h y
            subst hso
            split at h
            · rename_i t l rest hrt
              cases sr <;> simp only [resTup] at hrt <;> try (cases hrt; done)
              rename_i t0 r0
              simp only [List.cons.injEq, AV.dat.injEq] at hrt
              obtain ⟨⟨e1, e2⟩, e3⟩ := hrt
              subst e1
              simp only [heq_eq_eq] at e2
              obtain ⟨v0, vs, rfl, hov, hrest⟩ := hres
              obtain ⟨d', rfl, hn', hd, hnr, hr, hk⟩ := newK_some h
              subst e2 e3
              refine ⟨_, hk, hKK, upd μ d' v0, ?_⟩
              exact hS.ownRes hkp hn' hd hnr hov hrest (.inr fun b hb hlt => hb.elim id fun h => by omega)
            · cases h
end
end Go.Proofs.Yteldmddnmhmecaa
