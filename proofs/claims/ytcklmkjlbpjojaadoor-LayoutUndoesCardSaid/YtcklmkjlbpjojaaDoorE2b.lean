/- Layout: a kid's slot turned; a tree apart from what was turned. No walk. -/
import Derived.Test.YtcklmkjlbpjojaaDoorE2
namespace Go.Proofs.YtcklmkjlbpjojaaDoor
open Go.RowKit
set_option linter.unusedSimpArgs false
set_option linter.unusedVariables false

theorem Tr.off {base tr : Nat} {w w' : World} {t : T} {S : List Nat} (h : Tr base w tr t) (ho : Off S w w') (h1 : tr ∉ S) (h2 : ∀ b ∈ t.bl, b ∉ S) : Tr base w' tr t :=
  ⟨(ho.block tr h.lt h1).trans h.h, h.p.off ho h2, h.nd, h.nt, h.lo⟩
theorem At.slot {w : World} {up : Option Nat} {n : Nd} {L R : List T} {t t' : T} {b x : Nat} (h : At w up n (L ++ t :: R)) (hA : n.A = some b) (hb : b ≠ n.g) (ht : t'.g = x) :
    At (w.setCell ⟨b, L.length, none⟩ (ptr x)) up n (L ++ t' :: R) := by
  have hlen : (L ++ t' :: R).length = (L ++ t :: R).length := by simp
  refine ⟨?_, ?_⟩
  · rw [Below.heap_setCell _ _ _ _ (by exact fun e => hb e.symm), hlen]; exact h.h
  · rw [hlen]
    have hr := h.r
    refine ⟨by simp [ptrs], ?_⟩
    rcases hr.2 with ⟨h1, h2⟩ | ⟨g, cap, cur, h1, h2, h3, h4, h5, h6, h7⟩
    · simp at h2
    · have hgb : g = b := by
        unfold Nd.row adr at h1
        rw [hA] at h1
        injection h1 with h1
        injection h1 with h1; injection h1 with h1; exact h1.symm
      subst hgb
      refine .inr ⟨g, cap, _, h1, h2, heap_set h3 (ptr x), h4, h5, by simp [h6], ?_⟩
      rw [Array.toList_setIfInBounds, List.take_set, h7]
      simp [ptrs, ht]
theorem TP.isC {w : World} {up : Option Nat} {t : T} (h : TP w up t) : IsC w t.g := by
  cases t with | mk n ks => exact ⟨_, _, h.at_.h⟩
theorem g_sep {L R : List T} {t : T} (h : (blL (L ++ t :: R)).Nodup) : ∀ s ∈ L, s.g ≠ t.g := fun s hs e => by
  rw [blL_app, blL_cons] at h
  have h3 := (List.nodup_append.1 h).2.2
  exact h3 s.g (mem_blL.2 ⟨s, hs, s.g_mem⟩) t.g (by simp [t.g_mem]) e
end Go.Proofs.YtcklmkjlbpjojaaDoor
