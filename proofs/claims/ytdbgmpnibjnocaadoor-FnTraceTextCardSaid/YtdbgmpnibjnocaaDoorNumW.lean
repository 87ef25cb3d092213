/- The functions text and number: what a call gives. -/
import Derived.WalkKit
import Derived.Below
import Derived.Test.YtdbgmpnibjnocaaDoorLibS
import Derived.Test.YtdbgmpnibjnocaaDoorSh
import Derived.Lib.ParseIntB
import Derived.Lib.AtoiErrMem
namespace Go.Proofs.YtdbgmpnibjnocaaDoor
open Go.RowKit
set_option linter.unusedVariables false
set_option linter.unusedSimpArgs false

/-- What number gives: the number, and whether this is its text. -/
def numF (s : List UInt8) : Option (Int × Bool) := if s.length ≤ 1048576 then some (match Lib.parseIntB 64 s with
  | .ok v => (v, Lib.itoa v == s)
  | .range => (Lib.intSat 64 s, false)
  | _ => (0, false)) else none
theorem int_of_parse {s : List UInt8} {v : Int} (h : Lib.parseIntB 64 s = .ok v) : -9223372036854775808 ≤ v ∧ v ≤ 9223372036854775807 := by
  have e63 : (2 : Nat) ^ (64 - 1) = 9223372036854775808 := by decide
  unfold Lib.parseIntB at h
  split at h
  · cases h
  · simp only at h
    split at h
    · cases h
    · cases h
    · split at h
      · cases h
      · split at h
        · cases h
        · rename_i h1 h2
          rw [e63] at h1 h2
          split at h <;> (injection h with h; subst h; constructor <;> omega)
theorem text_calls (w : World) (n : Int) (ht : Lib.TabIs Tryd.prog w "internal/strconv.uint64pow10" .u64 Lib.pow10Tab) (h0 : -9223372036854775808 ≤ n) (h1 : n ≤ 9223372036854775807) :
    Calls Tryd.prog 32 #[.int .i64 n] w fun e w' => e = .returned (.string ⟨(Lib.itoa n).toArray⟩) ∧ Keeps noB w w' := by
  go_enter Tryd.func32, Tryd.ntmps32
  go_wp2_with (go_at_call 54; refine (Tryd.strconv_FormatInt_10 n h0 h1 _ ht).mono ?_; rintro e w' ⟨rfl, k, os, rfl⟩)
  go_ret
  exact ⟨rfl, Keeps.grow _ _ _ _⟩
theorem Gl.keep (G : Gl) {w w' : World} (h : G.I w) (hk : Keeps noB w w') : G.I w' := G.stay w w' h hk.size fun b hb => hk.block b (G.lt w h b hb) id
set_option maxHeartbeats 1000000 in
theorem number_calls (w : World) (s : List UInt8) (y : Int × Bool) (ht : Lib.TabIs Tryd.prog w "internal/strconv.uint64pow10" .u64 Lib.pow10Tab) (hs : (Gl.iface Tryd.prog "strconv.ErrSyntax").I w) (hr : (Gl.iface Tryd.prog "strconv.ErrRange").I w) (hy : numF s = some y) :
    Calls Tryd.prog 25 #[.string ⟨s.toArray⟩] w fun e w' => e = .returned (.tuple #[.int .i64 y.1, .bool y.2]) ∧ Keeps noB w w' := by
  unfold numF at hy
  split at hy
  · rename_i hl
    obtain rfl := Option.some.inj hy
    have hz : (⟨s.toArray⟩ : ByteArray).size = s.length := by show s.toArray.size = _; simp
    obtain ⟨te, pe, he⟩ := hs
    obtain ⟨tr, pr, hr⟩ := hr
    rcases hp : Lib.parseIntB 64 s with v | _ | _
    · obtain ⟨h0, h1⟩ := int_of_parse hp
      have c1 := (Tryd.strconv_ParseInt_10_at64_ok ⟨s.toArray⟩ (by omega) v hp w).mono (R' := fun e w' => e = .returned (.tuple #[.int .i64 v, .nilIface]) ∧ Keeps noB w w') fun e w' ⟨h1, h2⟩ => ⟨h1, by
        rcases h2 with rfl | ⟨t, rfl⟩
        · exact Keeps.refl _ _
        · exact Keeps.ofBelow (Lib.bytesWorld_below w _ t)⟩
      go_enter Tryd.func25, Tryd.ntmps25
      go_wp2_with (first
        | (go_at_call 50; refine c1.mono ?_; rintro e w1 ⟨rfl, hk1⟩; have ht1 := (Gl.tab Tryd.prog "internal/strconv.uint64pow10" .u64 Lib.pow10Tab).keep ht hk1)
        | (go_at_call 32; refine (text_calls _ v ht1 h0 h1).mono ?_; rintro e w2 ⟨rfl, hk2⟩))
      go_ret2
      exact ⟨rfl, hk1.trans hk2⟩
    · have hn : ∀ v, Lib.parseIntB 64 s ≠ .ok v := fun v h => by rw [hp] at h; cases h
      have hn2 : Lib.parseIntB 64 s ≠ .range := fun h => by rw [hp] at h; cases h
      have c1 := (Tryd.strconv_ParseInt_10_at64_syntax_var ⟨s.toArray⟩ (by omega) hn hn2 te pe w he).mono (R' := fun e w' => (∃ N, e = .returned (.tuple #[.int .i64 0, .iface 97 (.pointer (some ⟨N, 0, none⟩))])) ∧ Keeps noB w w') fun e w' ⟨N, h1, _, _, h2⟩ => ⟨⟨N, h1⟩, Keeps.ofBelow h2⟩
      go_enter Tryd.func25, Tryd.ntmps25
      go_wp2_with (go_at_call 50; refine c1.mono ?_; rintro e w1 ⟨⟨N, rfl⟩, hk1⟩)
      go_ret2
      exact ⟨rfl, hk1⟩
    · have c1 := (Tryd.strconv_ParseInt_10_at64_range_var ⟨s.toArray⟩ (by omega) hp tr pr w hr).mono (R' := fun e w' => (∃ N, e = .returned (.tuple #[.int .i64 (Lib.intSat 64 s), .iface 97 (.pointer (some ⟨N, 0, none⟩))])) ∧ Keeps noB w w') fun e w' ⟨N, h1, _, _, h2⟩ => ⟨⟨N, h1⟩, Keeps.ofBelow h2⟩
      go_enter Tryd.func25, Tryd.ntmps25
      go_wp2_with (go_at_call 50; refine c1.mono ?_; rintro e w1 ⟨⟨N, rfl⟩, hk1⟩)
      go_ret2
      exact ⟨rfl, hk1⟩
  · cases hy
end Go.Proofs.YtdbgmpnibjnocaaDoor
