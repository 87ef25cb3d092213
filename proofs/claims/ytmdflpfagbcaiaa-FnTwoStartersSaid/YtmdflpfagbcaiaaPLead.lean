/- Plain laws: who leads. -/
import Derived.Test.YtmdflpfagbcaiaaPStart
import Derived.Test.YtmdflpfagbcaiaaPClone
namespace Go.Proofs.Ytmdflpfagbcaiaa
open Go.RowKit
set_option linter.unusedVariables false
set_option linter.unusedSimpArgs false

section
variable {R O X : Type}
def mapI (h : Nat → R → R) : Nat → List R → List R
  | _, [] => []
  | i, v :: r => h i v :: mapI h (i + 1) r
theorem mapI_len (h : Nat → R → R) : ∀ (i : Nat) (l : List R), (mapI h i l).length = l.length
  | _, [] => rfl
  | i, v :: r => by simp [mapI, mapI_len h (i + 1) r]
theorem mapI_get (h : Nat → R → R) : ∀ (l : List R) (i j : Nat), (mapI h i l)[j]? = (l[j]?).map (h (i + j))
  | [], i, j => by simp [mapI]
  | v :: r, i, 0 => by simp [mapI]
  | v :: r, i, j + 1 => by
    simp only [mapI, List.getElem?_cons_succ, mapI_get h r (i + 1) j]
    congr 2
    omega
theorem pushes_mapI (h : Nat → R → R) : ∀ (i : Nat) (l : List R), pushes (fun i v => [h i v]) i l = mapI h i l
  | _, [] => rfl
  | i, v :: r => by simp [pushes, mapI, pushes_mapI h (i + 1) r]
theorem set_ok {B : X → Option (X ⊕ O)} (d : List R) (h : Nat → R → R) (e : List R → Nat → X) (fin : List R → O) (hend : ∀ s, s.length = d.length → B (e s d.length) = some (.inr (fin s)))
    (hstep : ∀ (s : List R) i (hi : i < d.length), s.length = d.length → s[i]? = some d[i] → B (e s i) = some (.inl (e (s.set i (h i d[i])) (i + 1)))) : loopL B (e d 0) = some (fin (mapI h 0 d)) := by
  have key : ∀ (r z : List R), z.length + r.length = d.length → d.drop z.length = r → loopL B (e (z ++ r) z.length) = some (fin (z ++ mapI h z.length r)) := by
    intro r
    induction r with
    | nil =>
      intro z h1 h2
      have hz : z.length = d.length := by simpa using h1
      have := hend (z ++ []) (by simpa using h1)
      rw [loopL_eq, hz, this]
      simp [mapI]
    | cons v r ih =>
      intro z h1 h2
      have hi : z.length < d.length := by simp at h1; omega
      have hv : d[z.length] = v := by
        rw [List.drop_eq_getElem_cons hi] at h2
        exact (List.cons.inj h2).1
      have hr : d.drop (z.length + 1) = r := by
        rw [List.drop_eq_getElem_cons hi] at h2
        exact (List.cons.inj h2).2
      rw [loopL_eq, hstep (z ++ v :: r) z.length hi (by simpa using h1) (by simp [hv])]
      simp only
      have e1 : (z ++ v :: r).set z.length (h z.length d[z.length]) = (z ++ [h z.length v]) ++ r := by rw [hv]; simp
      rw [e1]
      have := ih (z ++ [h z.length v]) (by simp at h1 ⊢; omega) (by simpa using hr)
      simp only [mapI]
      simpa using this
  have := key d [] (by simp) (by simp)
  simpa using this
theorem set_same {l : List R} {i : Nat} {v : R} (h : l[i]? = some v) : l.set i v = l := by
  apply List.ext_getElem?
  intro j
  rw [List.getElem?_set]
  split
  · rename_i hij
    subst hij
    obtain ⟨hi, _⟩ := List.getElem?_eq_some_iff.1 h
    rw [h]
    simp [hi]
  · rfl
end

/-- What a node's time is after a collision at t. -/
def turnL (t : Int) (v : TStarter.T) (d : Int) : Int := if d == t then IntKind.i64.wrap (t + v.2.2.2.1) else if decide (v.2.1 ≤ t) then IntKind.i64.wrap (t + v.2.2.1) else d
def turnI (l : List TStarter.T) (t : Int) (i : Nat) (d : Int) : Int := match l[i]? with
  | some v => turnL t v d
  | none => 0
def collideL (l : List TStarter.T) (d : List Int) : List Int := mapI (turnI l (leastI d)) 0 d
theorem collide_len (l : List TStarter.T) (d : List Int) : (collideL l d).length = d.length := mapI_len _ _ _

theorem has_ok (l : List Int) (v : Int) (hl : l.length ≤ 1099511627776) : s_l01Has (l, v, ()) = some (l.any (fun u => u == v), ()) := by
  have e := all_ok (B := b_s_l01Has_2) l (fun i => (l, v, (i : Int), ())) (fun u => !(u == v)) (.inl ()) (.inr (true, ())) (by simp only [b_s_l01Has_2, lt_n]) (fun i h => by
    simp only [b_s_l01Has_2, lt_i h, next_i h hl, idx_nat h, onSome]
    rcases Bool.eq_false_or_eq_true (l[i] == v) with h1 | h1 <;> simp only [h1] <;> rfl)
  have e' : loopL b_s_l01Has_2 (l, v, (0 : Int), ()) = _ := e
  unfold s_l01Has
  simp only [e', all_any, Bool.not_not]
  cases l.any (fun u => u == v) <;> simp

theorem i_collide_ok (l : List TStarter.T) (d : List Int) (hd : d.length = l.length) (h1 : 1 ≤ l.length) (hl : l.length ≤ 1000000) : i_collide (l, d, ()) = some (collideL l d, ()) := by
  have hmin : slices_Min_int64 (d, ()) = some (leastI d, ()) := by
    cases d with
    | nil => simp at hd; omega
    | cons v r => exact i_min v r (by omega)
  have e := set_ok (B := b_i_collide_3) d (turnI l (leastI d)) (fun s i => (d, leastI d, s, l, (l.length : Int), (i : Int), ())) (fun s => .inl (s, ())) (fun s hs => by simp only [b_i_collide_3, hd, lt_n]) (fun s i hi hs hg => by
    have hil : i < l.length := by omega
    have his : i < s.length := by omega
    have ht : turnI l (leastI d) i d[i] = turnL (leastI d) l[i] d[i] := by unfold turnI; rw [List.getElem?_eq_getElem hil]
    simp only [b_i_collide_3, lt_i hil, next_i hil (show l.length ≤ 1099511627776 by omega), idx_nat hil, idx_nat hi, idx_nat his, onSome, Int.toNat_natCast, hg, ht, turnL]
    rcases Bool.eq_false_or_eq_true (d[i] == leastI d) with h2 | h2
    · simp only [h2, if_true]
    · rcases Bool.eq_false_or_eq_true (decide (l[i].2.1 ≤ leastI d)) with h3 | h3
      · simp only [h2, h3, if_true]; simp
      · simp only [h2, h3]; simp [set_same hg])
  have e' : loopL b_i_collide_3 (d, leastI d, d, l, (l.length : Int), (0 : Int), ()) = _ := e
  unfold i_collide
  simp only [hmin, clone_ok d (by omega), e']
  rfl

theorem s_collide_ok (l : List TStarter.T) (d : List Int) (hd : d.length = l.length) (h1 : 1 ≤ l.length) (hl : l.length ≤ 1000000) : s_l31Collide (l, d, ()) = some (collideL l d, ()) := by
  obtain ⟨k, r, hk, hv, hkl⟩ := least_some (l := d) (by omega)
  have hF : (leastL d).length ≤ d.length := firsts_len _ _
  have hany : ∀ i (hi : i < d.length), (leastL d).any (fun u => u == (i : Int)) = (d[i] == leastI d) := by
    intro i hi
    rw [Bool.eq_iff_iff]
    simp only [List.any_eq_true, beq_iff_eq]
    constructor
    · rintro ⟨u, hu, rfl⟩
      obtain ⟨j, hj, hjv⟩ := (firsts_in _ _ _).1 hu
      have : i = j := by omega
      subst this
      rw [List.getElem?_eq_getElem hi] at hjv
      exact Option.some.inj hjv
    · intro h
      exact ⟨(i : Int), (firsts_in _ _ _).2 ⟨i, rfl, by rw [List.getElem?_eq_getElem hi, h]⟩, rfl⟩
  have e := push_ok (B := b_s_l31Collide_5) d (by omega) (fun s i => (l, d, leastL d, leastI d, s, (i : Int), ())) (fun i v => [turnI l (leastI d) i v]) (by simp) (fun s => .inl (s, ())) (fun s => by simp only [b_s_l31Collide_5, lt_n]) (fun s i hi hs => by
    have hil : i < l.length := by omega
    have ht : turnI l (leastI d) i d[i] = turnL (leastI d) l[i] d[i] := by unfold turnI; rw [List.getElem?_eq_getElem hil]
    have hh := has_ok (leastL d) (i : Int) (by omega)
    simp only [b_s_l31Collide_5, lt_i hi, next_i hi (show d.length ≤ 1099511627776 by omega), idx_nat hil, idx_nat hi, onSome, ht, turnL, hh, hany i hi]
    rcases Bool.eq_false_or_eq_true (d[i] == leastI d) with h2 | h2
    · simp only [h2, if_true]
      rw [room_ok (by simp; omega)]
    · rcases Bool.eq_false_or_eq_true (decide (l[i].2.1 ≤ leastI d)) with h3 | h3
      · simp only [h2, h3, if_true]
        rw [room_ok (by simp; omega)]
        simp
      · simp only [h2, h3]
        rw [room_ok (by simp; omega)]
        simp)
  have e' : loopL b_s_l31Collide_5 (l, d, leastL d, leastI d, [], (0 : Int), ()) = _ := e
  have hk0 : idx (leastL d) (0 : Int) = some (k : Int) := by rw [hk]; rfl
  have hk1 : (leastL d)[(0 : Int).toNat]? = some (k : Int) := by rw [hk]; rfl
  have hk2 : idx d (k : Int) = some (leastI d) := by
    rw [idx_nat hkl, ← List.getElem?_eq_getElem hkl]; exact hv
  unfold s_l31Collide
  simp only [s_first d (by omega) (by omega), hk0, hk1, onSome, hk2, e', pushes_mapI]
  rfl

/-- The leader: its index, its time, the collisions before. -/
def leadGo (l : List TStarter.T) : Nat → List Int → Nat → Option (Nat × Int × Nat)
  | 0, _, _ => none
  | n + 1, d, k => if (leastL d).length = 1 then some (((leastL d).headD 0).toNat, leastI d, k) else leadGo l n (collideL l d) (k + 1)
theorem lead_lt {l : List TStarter.T} : ∀ {n : Nat} {d : List Int} {k : Nat} {a t j}, d.length = l.length → 1 ≤ l.length → leadGo l n d k = some (a, t, j) → a < l.length ∧ k ≤ j ∧ j < k + n
  | 0, d, k, a, t, j, _, _, h => by cases h
  | n + 1, d, k, a, t, j, hd, h1, h => by
    unfold leadGo at h
    split at h
    · obtain ⟨k', r, hk, hv, hkl⟩ := least_some (l := d) (by omega)
      rw [hk] at h
      cases h
      refine ⟨?_, by omega, by omega⟩
      simp; omega
    · have := lead_lt (by rw [collide_len]; exact hd) h1 h
      omega

def leadOut : Option (Nat × Int × Nat) → Unit ⊕ (Int × Int × Int × Unit)
  | none => .inl ()
  | some (a, t, j) => .inr ((a : Int), t, (j : Int), ())
theorem s_lead_loop (l : List TStarter.T) (h1 : 1 ≤ l.length) (hl : l.length ≤ 1000000) : ∀ (n : Nat) (d : List Int) (k : Nat), d.length = l.length → k + n = 51 → loopL b_s_l31Leader_3 (l, d, (k : Int), ()) = some (leadOut (leadGo l n d k))
  | 0, d, k, hd, hk => by
    have : k = 51 := by omega
    subst this
    rw [loopL_eq]
    rfl
  | n + 1, d, k, hd, hk => by
    obtain ⟨k', r, hk', hv, hkl⟩ := least_some (l := d) (by omega)
    have hle : decide ((k : Int) ≤ 50) = true := by simp; omega
    have hk0 : idx (leastL d) (0 : Int) = some (k' : Int) := by rw [hk']; rfl
    have hk1 : (leastL d)[(0 : Int).toNat]? = some (k' : Int) := by rw [hk']; rfl
    have hk2 : idx d (k' : Int) = some (leastI d) := by
      rw [idx_nat hkl, ← List.getElem?_eq_getElem hkl]; exact hv
    have hw : IntKind.i64.wrap ((k : Int) + 1) = ((k + 1 : Nat) : Int) := next_i (n := 51) (by omega) (by omega)
    rw [loopL_eq]
    unfold leadGo
    simp only [b_s_l31Leader_3, hle, s_first d (by omega) (by omega)]
    by_cases hone : (leastL d).length = 1
    · have hb : (((leastL d).length : Int) == 1) = true := by rw [hone]; rfl
      simp only [hb, hk0, hk1, onSome, hk2, Int.toNat_natCast, hv, hone, if_true]
      simp [leadOut, hk']
    · have hb : (((leastL d).length : Int) == 1) = false := by simp; omega
      simp only [hb, s_collide_ok l d hd h1 hl, hw, hone, if_false]
      exact s_lead_loop l h1 hl n (collideL l d) (k + 1) (by rw [collide_len]; exact hd) (by omega)
theorem s_leader_ok (l : List TStarter.T) (h1 : 1 ≤ l.length) (hl : l.length ≤ 1000000) : s_l31Leader (l, ()) = some (match leadGo l 51 (dueL l) 0 with | none => ((-1 : Int), (0 : Int), (0 : Int), ()) | some (a, t, j) => ((a : Int), t, (j : Int), ())) := by
  have e := s_lead_loop l h1 hl 51 (dueL l) 0 (by simp [dueL]) (by omega)
  have e' : loopL b_s_l31Leader_3 (l, dueL l, (0 : Int), ()) = _ := e
  unfold s_l31Leader
  simp only [s_due l (by omega), e']
  cases leadGo l 51 (dueL l) 0 <;> rfl

def startOut : Option (Nat × Int × Nat) → Unit ⊕ (Int × Int × Int × Bool × Unit)
  | none => .inl ()
  | some (a, t, j) => .inr ((a : Int), t, (j : Int), true, ())
theorem i_lead_loop (l : List TStarter.T) (h1 : 1 ≤ l.length) (hl : l.length ≤ 1000000) : ∀ (n : Nat) (d : List Int) (k : Nat), d.length = l.length → k + n = 51 → loopL b_i_startup_3 (l, d, (k : Int), ()) = some (startOut (leadGo l n d k))
  | 0, d, k, hd, hk => by
    have : k = 51 := by omega
    subst this
    rw [loopL_eq]
    rfl
  | n + 1, d, k, hd, hk => by
    obtain ⟨k', r, hk', hv, hkl⟩ := least_some (l := d) (by omega)
    have hle : decide ((k : Int) < 51) = true := by simp; omega
    have hk0 : idx (leastL d) (0 : Int) = some (k' : Int) := by rw [hk']; rfl
    have hk1 : (leastL d)[(0 : Int).toNat]? = some (k' : Int) := by rw [hk']; rfl
    have hk2 : idx d (k' : Int) = some (leastI d) := by
      rw [idx_nat hkl, ← List.getElem?_eq_getElem hkl]; exact hv
    have hw : IntKind.i64.wrap ((k : Int) + 1) = ((k + 1 : Nat) : Int) := next_i (n := 51) (by omega) (by omega)
    rw [loopL_eq]
    unfold leadGo
    simp only [b_i_startup_3, hle, i_least d (by omega) (by omega)]
    by_cases hone : (leastL d).length = 1
    · have hb : (((leastL d).length : Int) == 1) = true := by rw [hone]; rfl
      simp only [hb, hk0, hk1, onSome, hk2, Int.toNat_natCast, hv, hone, if_true]
      simp [startOut, hk']
    · have hb : (((leastL d).length : Int) == 1) = false := by simp; omega
      simp only [hb, i_collide_ok l d hd h1 hl, hw, hone, if_false]
      exact i_lead_loop l h1 hl n (collideL l d) (k + 1) (by rw [collide_len]; exact hd) (by omega)
theorem i_startup_ok (l : List TStarter.T) (h1 : 1 ≤ l.length) (hl : l.length ≤ 1000000) : i_startup (l, ()) = some (match leadGo l 51 (dueL l) 0 with | none => ((0 : Int), (0 : Int), (0 : Int), false, ()) | some (a, t, j) => ((a : Int), t, (j : Int), true, ())) := by
  have e := i_lead_loop l h1 hl 51 (dueL l) 0 (by simp [dueL]) (by omega)
  have e' : loopL b_i_startup_3 (l, dueL l, (0 : Int), ()) = _ := e
  unfold i_startup
  simp only [i_due l (by omega), e']
  cases leadGo l 51 (dueL l) 0 <;> rfl

/-- What LeaderOf answers. -/
noncomputable def leaderL (l : List TStarter.T) : Int × Int × Int × Int × Unit := if startersB l then (match leadGo l 51 (dueL l) 0 with
  | none => ((0 : Int), (0 : Int), (0 : Int), (3 : Int), ())
  | some (a, t, j) => (match l[a]? with | some v => (v.1 : Int) | none => 0, t, (j : Int), (0 : Int), ())) else ((0 : Int), (0 : Int), (0 : Int), (1 : Int), ())
theorem s_leaderOf (l : List TStarter.T) (hl : l.length ≤ 1099511627776) : s_LeaderOf (l, ()) = some (leaderL l) := by
  unfold s_LeaderOf leaderL
  simp only [s_starters, hl]
  cases hs : startersB l
  · rfl
  · have hn := starters_len hs
    simp only [Bool.not_true, s_leader_ok l hn.1 (by omega), if_true]
    cases hg : leadGo l 51 (dueL l) 0 with
    | none => rfl
    | some y =>
      obtain ⟨a, t, j⟩ := y
      have ha := lead_lt (by simp [dueL]) hn.1 hg
      have hneg : decide ((a : Int) < 0) = false := by simp
      simp only [hneg, idx_nat ha.1, onSome, List.getElem?_eq_getElem ha.1]
theorem i_leaderOf (l : List TStarter.T) (hl : l.length ≤ 1099511627776) : i_LeaderOf (l, ()) = some (leaderL l) := by
  unfold i_LeaderOf leaderL
  simp only [i_starters, hl]
  cases hs : startersB l
  · rfl
  · have hn := starters_len hs
    simp only [Bool.not_true, i_startup_ok l hn.1 (by omega), if_true]
    cases hg : leadGo l 51 (dueL l) 0 with
    | none => rfl
    | some y =>
      obtain ⟨a, t, j⟩ := y
      have ha := lead_lt (by simp [dueL]) hn.1 hg
      simp only [Bool.not_true, idx_nat ha.1, onSome, List.getElem?_eq_getElem ha.1]
end Go.Proofs.Ytmdflpfagbcaiaa
