/- The law LanStations, plainly. -/
import Derived.Test.YtoahcombdhgmhaaPo
import Derived.Test.YtoahcombdhgmhaaLg
set_option linter.unusedVariables false
set_option linter.unusedSimpArgs false
open Go Go.RX
namespace Go.RX
theorem hasHost_eq (l : List HostT) (w : HostT) (hl : l.length ≤ 1000000) : law15_LanStations_1 l w = some (l.any fun x => decide (x.Mac = w.Mac)) := by
  unfold law15_LanStations_1
  rcases rangeL_find (s0 := ()) (body := law15_LanStations_1_b16 w) hl (fun _ x => decide (x.Mac = w.Mac)) (fun _ _ => true) (fun k x hx => by
    unfold law15_LanStations_1_b16; cases decide (x.Mac = w.Mac) <;> rfl) with ⟨k, x, hx, hp, _, h⟩ | ⟨hp, h⟩
  · rw [h, aft_some_ret, show (l.any fun x => decide (x.Mac = w.Mac)) = true from List.any_eq_true.2 ⟨x, List.mem_of_getElem? hx, hp⟩]
  · rw [h, aft_some_nxt, show (l.any fun x => decide (x.Mac = w.Mac)) = false from List.any_eq_false.2 fun x hx => by obtain ⟨k, hk⟩ := List.getElem?_of_mem hx; simp [hp k x hk]]
theorem LanStations_true (a0 : LanT) (a1 a2 : Int) : law15_LanStations a0 a1 a2 = some true := by
  unfold law15_LanStations
  rw [few_eq, Option.bind_some]
  have hf := fewL_few a0
  generalize fewL a0 = l at hf ⊢
  rw [Parts_eq l hf, Option.bind_some, Loops_eq l hf, Option.bind_some, alive15]
  by_cases h : LR l
  · rw [if_pos h, if_pos h]
    have hseg := h.segs
    have hf0 : FewL (⟨l.Segs, l.Plans, []⟩ : LanT) := ⟨hf.plans, hf.ports, by simp⟩
    have h0 : LR (⟨l.Segs, l.Plans, []⟩ : LanT) := ⟨h.segs, h.plans, by simp, h.ids, by simp, h.plan, by simp⟩
    rw [Parts_eq _ hf0, if_pos h0, Loops_eq _ hf0, if_pos h0]
    have e1 : partsN (⟨l.Segs, l.Plans, []⟩ : LanT) = partsN l := rfl
    have e2 : slack (⟨l.Segs, l.Plans, []⟩ : LanT) = slack l := rfl
    simp only [e1, e2, decide_true, Bool.not_true, Bool.not_false, cond_false, cond_true, Option.bind_some, gd_some, decide_eq_false (show ¬ l.Segs < 1 by omega)]
    by_cases hn : ((l.Hosts.length : Nat) : Int) = 0
    · rw [decide_eq_true hn]; rfl
    · have hh := hf.hosts
      obtain ⟨i, hi, hil⟩ := idx_ok (n := ((l.Hosts.length : Nat) : Int)) (by omega) (by omega) a1
      obtain ⟨s, hs, hsl⟩ := idx_ok (n := l.Segs) (by omega) (by omega) a2
      have hil' : i < l.Hosts.length := by omega
      have e0 : l.Segs ≠ 0 := by omega
      rw [decide_eq_false hn, cond_false, grd_true hn, grd_true hn, grd_true e0, grd_true e0]
      simp only [hi, hs, List.nil_append]
      unfold gixN
      rw [gix_lt hil', Option.bind_some, grd_true (fits_of (by omega) (by decide)), grd_true ⟨by omega, by omega⟩, Int.toNat_natCast, List.getElem?_eq_getElem hil', Option.bind_some]
      have hw : l.Hosts[i]? = some l.Hosts[i] := List.getElem?_eq_getElem hil'
      generalize l.Hosts[i] = w at hw ⊢
      have hwm := List.mem_of_getElem? hw
      have hwo := h.host w hwm
      have key : ∃ A B, l.Hosts = A ++ w :: B ∧ ∀ a, l.Hosts.set i a = A ++ a :: B := by
        obtain ⟨hi, rfl⟩ := List.getElem?_eq_some_iff.1 hw
        exact ⟨l.Hosts.take i, l.Hosts.drop (i + 1), by rw [List.getElem_cons_drop, List.take_append_drop], fun a => by rw [List.set_eq_take_append_cons_drop, if_pos hi]⟩
      obtain ⟨A, B, k1, k2⟩ := key
      rw [k2]
      have hnd := h.macs
      rw [k1, List.map_append, List.map_cons] at hnd
      have hlen : (A ++ (⟨w.Mac, (s : Int)⟩ : HostT) :: B).length ≤ 8 := by rw [← k2, List.length_set]; exact h.hosts
      have f1 : FewL (⟨l.Segs, l.Plans, A ++ (⟨w.Mac, (s : Int)⟩ : HostT) :: B⟩ : LanT) := ⟨hf.plans, hf.ports, Nat.le_trans hlen (by decide)⟩
      have l1 : LR (⟨l.Segs, l.Plans, A ++ (⟨w.Mac, (s : Int)⟩ : HostT) :: B⟩ : LanT) := ⟨h.segs, h.plans, hlen, h.ids, by show (List.map _ (A ++ _ :: B)).Nodup; rw [List.map_append, List.map_cons]; exact hnd, h.plan, fun x hx => by
        have hx : x ∈ A ++ (⟨w.Mac, (s : Int)⟩ : HostT) :: B := hx
        rcases List.mem_append.1 hx with hx | hx
        · exact h.host x (by rw [k1]; exact List.mem_append_left _ hx)
        · rcases List.mem_cons.1 hx with rfl | hx
          · exact ⟨hwo.1, by show (0 : Int) ≤ s; omega, hsl⟩
          · exact h.host x (by rw [k1]; exact List.mem_append_right _ (List.mem_cons_of_mem _ hx))⟩
      rw [On_eq _ f1, if_pos l1, if_pos ⟨by omega, hsl⟩, Option.bind_some, On_eq _ f1, if_pos l1, if_pos ⟨hwo.2.1, hwo.2.2⟩, Option.bind_some]
      have lf : ∀ z : Int, ((A ++ (⟨w.Mac, (s : Int)⟩ : HostT) :: B).filter fun h => decide (h.Seg = z)).length ≤ 1000000 := fun z => Nat.le_trans (List.length_filter_le _ _) (by omega)
      dsimp only
      rw [hasHost_eq _ _ (lf _), hasHost_eq _ _ (lf _)]
      have notA : ∀ x ∈ A, x.Mac ≠ w.Mac := fun x hx e => by
        rw [List.nodup_append] at hnd
        exact hnd.2.2 _ (List.mem_map_of_mem hx) _ (List.mem_cons_self ..) e
      have notB : ∀ x ∈ B, x.Mac ≠ w.Mac := fun x hx e => by
        rw [List.nodup_append, List.nodup_cons] at hnd
        exact hnd.2.1.1 (e ▸ List.mem_map_of_mem hx)
      have v1 : ∀ z : Int, (((A ++ (⟨w.Mac, (s : Int)⟩ : HostT) :: B).filter fun h => decide (h.Seg = z)).any fun x => decide (x.Mac = w.Mac)) = decide ((s : Int) = z) := fun z => by
        rw [Bool.eq_iff_iff, List.any_eq_true, decide_eq_true_eq]
        constructor
        · rintro ⟨x, hx, e⟩
          rw [List.mem_filter] at hx
          rcases List.mem_append.1 hx.1 with h1 | h1
          · exact absurd (of_decide_eq_true e) (notA x h1)
          · rcases List.mem_cons.1 h1 with rfl | h1
            · exact of_decide_eq_true hx.2
            · exact absurd (of_decide_eq_true e) (notB x h1)
        · intro e
          exact ⟨⟨w.Mac, (s : Int)⟩, List.mem_filter.2 ⟨List.mem_append_right _ (List.mem_cons_self ..), decide_eq_true e⟩, decide_eq_true rfl⟩
      rw [v1, v1, decide_eq_true rfl]
      simp [gd_true]
  · rw [if_neg h, if_neg h]; rfl
end Go.RX
