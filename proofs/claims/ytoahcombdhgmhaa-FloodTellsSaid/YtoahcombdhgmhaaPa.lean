/- Plans, plainly: which may be, and what the first functions of layer 15 answer. -/
import Derived.Test.YtoahcombdhgmhaaMp
import Derived.Test.YtoahcombdhgmhaaCmp
import Derived.Test.YtoahcombdhgmhaaLa
set_option linter.unusedVariables false
set_option linter.unusedSimpArgs false
open Go Go.RX
namespace Go.RX
def fewL (l : LanT) : LanT := ⟨l.Segs, (l.Plans.take 8).map fun p => ⟨p.ID, p.Ports.take 10⟩, l.Hosts.take 12⟩
structure FewL (l : LanT) : Prop where
  plans : l.Plans.length ≤ 8
  ports : ∀ p ∈ l.Plans, p.Ports.length ≤ 10
  hosts : l.Hosts.length ≤ 12
theorem fewL_few (l : LanT) : FewL (fewL l) where
  plans := by show (List.map _ _).length ≤ 8; rw [List.length_map, List.length_take]; omega
  ports p hp := by
    obtain ⟨q, _, rfl⟩ := List.mem_map.1 hp
    show (q.Ports.take 10).length ≤ 10
    rw [List.length_take]; omega
  hosts := by show (l.Hosts.take 12).length ≤ 12; rw [List.length_take]; omega
theorem few_eq (l : LanT) : law15_few l = some (fewL l) := by
  unfold law15_few
  rw [grd_true (mn_ok _ _ (by decide)), show (8 : Int) = ((8 : Nat) : Int) from rfl, take_mn,
    rangeL_map (f := fun p : PlanT => (⟨p.ID, p.Ports.take 10⟩ : PlanT)) (by rw [List.length_take]; omega) (fun k x s hx hk => by
      have hk8 : k < 8 := by have := (List.getElem?_eq_some_iff.1 hx).1; rw [List.length_take] at this; omega
      unfold law15_few_b1
      rw [grd_true (mn_ok _ _ (by decide)), grd_true (fits_of (by simp; omega) (by decide)), show (10 : Int) = ((10 : Nat) : Int) from rfl, take_mn]),
    aft_some_nxt, grd_true (mn_ok _ _ (by decide)), show (12 : Int) = ((12 : Nat) : Int) from rfl, take_mn]
  rfl
theorem in_eq (n a b : Int) : lan_in n a b = some (decide (a ≤ n ∧ n ≤ b)) := by
  unfold lan_in
  by_cases h : a ≤ n <;> simp [h]
/-- A station's address. -/
def Uni (a : Int) : Prop := 0 ≤ a ∧ a < 281474976710656 ∧ a / 16 ≠ 103282638848 ∧ a / 1099511627776 % 2 = 0
instance (a : Int) : Decidable (Uni a) := by unfold Uni; infer_instance
theorem macRight_eq (a : Int) : mac_Right a = some (decide (0 ≤ a ∧ a < 281474976710656)) := by
  unfold mac_Right
  by_cases h : 0 ≤ a
  · by_cases h2 : a < 281474976710656
    · have : a ≤ 281474976710655 := by omega
      simp [h, h2, this]
    · have : ¬ a ≤ 281474976710655 := by omega
      simp [h, h2, this]
  · simp [h]
def classN (a : Int) : Int := if a / 16 = 103282638848 then 2 else a / 1099511627776 % 2
theorem macClass_eq (a : Int) : mac_Class a = some (if 0 ≤ a ∧ a < 281474976710656 then (classN a, 0) else (0, 1)) := by
  unfold mac_Class
  rw [macRight_eq, Option.bind_some]
  by_cases h : 0 ≤ a ∧ a < 281474976710656
  · rw [decide_eq_true h, if_pos h, bit_andNot15 h.1 h.2, bit_and1 h.1 h.2]
    unfold classN
    by_cases h2 : a / 16 = 103282638848
    · simp [h2]
    · have : ¬ a / 16 * 16 = 1652522221568 := by omega
      simp [h2, this]
  · rw [decide_eq_false h, if_neg h]; rfl
theorem uni_iff (a : Int) : Uni a ↔ (0 ≤ a ∧ a < 281474976710656) ∧ classN a = 0 := by
  unfold Uni classN
  split <;> omega
/-- A port, a bridge, a station that may be. -/
def LinkOk (n : Int) (x : LinkT) : Prop := (0 ≤ x.Seg ∧ x.Seg < n) ∧ 1 ≤ x.Cost ∧ x.Cost ≤ 1000
instance (n : Int) (x : LinkT) : Decidable (LinkOk n x) := by unfold LinkOk; infer_instance
def PlanOk (n : Int) (p : PlanT) : Prop := (0 ≤ p.ID ∧ p.ID ≤ 65535) ∧ (1 ≤ p.Ports.length ∧ p.Ports.length ≤ 8) ∧ ∀ x ∈ p.Ports, LinkOk n x
instance (n : Int) (p : PlanT) : Decidable (PlanOk n p) := by unfold PlanOk; infer_instance
def HostOk (n : Int) (h : HostT) : Prop := Uni h.Mac ∧ 0 ≤ h.Seg ∧ h.Seg < n
instance (n : Int) (h : HostT) : Decidable (HostOk n h) := by unfold HostOk; infer_instance
/-- A plan that may be. -/
structure LR (l : LanT) : Prop where
  segs : 1 ≤ l.Segs ∧ l.Segs ≤ 8
  plans : l.Plans.length ≤ 6
  hosts : l.Hosts.length ≤ 8
  ids : (l.Plans.map (·.ID)).Nodup
  macs : (l.Hosts.map (·.Mac)).Nodup
  plan : ∀ p ∈ l.Plans, PlanOk l.Segs p
  host : ∀ h ∈ l.Hosts, HostOk l.Segs h
theorem LR.iff (l : LanT) : LR l ↔ ((1 ≤ l.Segs ∧ l.Segs ≤ 8) ∧ l.Plans.length ≤ 6 ∧ l.Hosts.length ≤ 8) ∧ ((l.Plans.map (·.ID)).Nodup ∧ ∀ p ∈ l.Plans, PlanOk l.Segs p) ∧ (l.Hosts.map (·.Mac)).Nodup ∧ ∀ h ∈ l.Hosts, HostOk l.Segs h :=
  ⟨fun h => ⟨⟨h.segs, h.plans, h.hosts⟩, ⟨h.ids, h.plan⟩, h.macs, h.host⟩, fun h => ⟨h.1.1, h.1.2.1, h.1.2.2, h.2.1.1, h.2.2.1, h.2.1.2, h.2.2.2⟩⟩
instance (l : LanT) : Decidable (LR l) := decidable_of_iff _ (LR.iff l).symm
theorem w64_pred {n : Int} (h1 : -1000 ≤ n) (h2 : n ≤ 1000000) : IntKind.i64.wrap (n - 1) = n - 1 := w64_in (by omega) (by omega)
theorem w64_succ {n : Int} (h1 : -1000 ≤ n) (h2 : n ≤ 1000000) : IntKind.i64.wrap (n + 1) = n + 1 := w64_in (by omega) (by omega)
theorem isPlan1_eq (x : LinkT) (n : Int) (h1 : -1000 ≤ n) (h2 : n ≤ 1000000) : lan_isPlan_1 x n = some (decide (¬ LinkOk n x)) := by
  unfold lan_isPlan_1
  rw [in_eq, in_eq, Option.bind_some, gd_some, Option.bind_some, w64_pred h1 h2]
  congr 1
  unfold LinkOk
  by_cases h : 0 ≤ x.Seg ∧ x.Seg ≤ n - 1
  · have h' : 0 ≤ x.Seg ∧ x.Seg < n := by omega
    by_cases k : 1 ≤ x.Cost ∧ x.Cost ≤ 1000 <;> simp [h, h', k]
  · have h' : ¬ (0 ≤ x.Seg ∧ x.Seg < n) := by omega
    simp [h, h']
theorem containsLink_eq (l : List LinkT) (q : LinkT → Option Bool) (p : LinkT → Bool) (hl : l.length ≤ 1000000) (hq : ∀ x ∈ l, q x = some (p x)) : slices_ContainsFunc_Link l q = some (l.any p) := by
  unfold slices_ContainsFunc_Link slices_IndexFunc_Link
  rcases rangeL_find (s0 := ()) (body := slices_IndexFunc_Link_b3 q) hl (fun _ x => p x) (fun k _ => ((k : Nat) : Int)) (fun k x hx => by
    unfold slices_IndexFunc_Link_b3
    rw [hq x (List.mem_of_getElem? hx), Option.bind_some]; cases p x <;> rfl) with ⟨k, x, hx, hp, _, h⟩ | ⟨hp, h⟩
  · rw [h, aft_some_ret, Option.bind_some, show l.any p = true from List.any_eq_true.2 ⟨x, List.mem_of_getElem? hx, hp⟩, decide_eq_true (Int.natCast_nonneg k)]
  · rw [h, aft_some_nxt, Option.bind_some, show l.any p = false from List.any_eq_false.2 fun x hx => by obtain ⟨k, hk⟩ := List.getElem?_of_mem hx; simp [hp k x hk]]
    rfl
theorem isPlan_eq (p : PlanT) (n : Int) (h1 : -1000 ≤ n) (h2 : n ≤ 1000000) (hp : p.Ports.length ≤ 1000000) : lan_isPlan p n = some (decide (PlanOk n p)) := by
  unfold lan_isPlan
  rw [in_eq, in_eq, Option.bind_some, gd_some, Option.bind_some, containsLink_eq _ _ (fun x => decide (¬ LinkOk n x)) hp (fun x _ => isPlan1_eq x n h1 h2), Option.bind_some]
  by_cases h : 0 ≤ p.ID ∧ p.ID ≤ 65535
  · by_cases k : 1 ≤ ((p.Ports.length : Nat) : Int) ∧ ((p.Ports.length : Nat) : Int) ≤ 8
    · have k' : 1 ≤ p.Ports.length ∧ p.Ports.length ≤ 8 := by omega
      simp only [h, k, and_self, decide_true, cond_true]
      congr 1
      rw [Bool.eq_iff_iff]
      simp [PlanOk, h, k']
    · have k' : ¬ (1 ≤ p.Ports.length ∧ p.Ports.length ≤ 8) := by omega
      have : ¬ PlanOk n p := fun hh => k' hh.2.1
      simp [h, k, this]
  · have : ¬ PlanOk n p := fun hh => h hh.1
    simp [h, this]
/-- A map counts what was met. -/
theorem cnt_loop {α : Type} {body : Nat → α → List (Int × Int) → Option (Step Bool (List (Int × Int)))} {xs : List α} (hl : xs.length ≤ 1000000) (key : α → Int) (ok : α → Prop) [DecidablePred ok]
    (hs : ∀ k x m, xs[k]? = some x → 0 ≤ mget m (key x) 0 → mget m (key x) 0 ≤ 1000000 → body k x m = some (bif decide (0 < mget m (key x) 0 ∨ ¬ ok x) then .ret false else .nxt (mput m (key x) (mget m (key x) 0 + 1)))) :
    (((xs.map key).Nodup ∧ ∀ x ∈ xs, ok x) ∧ ∃ s, rangeL body xs [] = some (.nxt s)) ∨ (¬ ((xs.map key).Nodup ∧ ∀ x ∈ xs, ok x) ∧ rangeL body xs [] = some (.ret false)) := by
  obtain ⟨o, h1, h2⟩ := rangeL_rec (s0 := []) (body := body) hl
    (fun k m => (((xs.take k).map key).Nodup ∧ ∀ x ∈ xs.take k, ok x) ∧ ∀ z, mget m z 0 = if z ∈ (xs.take k).map key then 1 else 0)
    (fun r => r = false ∧ ¬ ((xs.map key).Nodup ∧ ∀ x ∈ xs, ok x)) (fun _ => False) (by simp [mget_nil]) (fun k x m hx ⟨⟨i1, i2⟩, i3⟩ => by
      have ht : xs.take (k + 1) = xs.take k ++ [x] := by rw [List.take_add_one, hx]; rfl
      have hr : mget m (key x) 0 = 0 ∨ mget m (key x) 0 = 1 := by rw [i3]; split <;> simp
      refine ⟨_, hs k x m hx (by omega) (by omega), ?_⟩
      by_cases hb : 0 < mget m (key x) 0 ∨ ¬ ok x
      · rw [decide_eq_true hb]
        refine ⟨rfl, fun ⟨n1, n2⟩ => ?_⟩
        rcases hb with hb | hb
        · have hmem : key x ∈ (xs.take k).map key := by
            rw [i3] at hb; split at hb
            · assumption
            · omega
          have : (xs.take (k + 1)).Sublist xs := List.take_sublist _ _
          have := (this.map key).nodup n1
          rw [ht, List.map_append, List.nodup_append] at this
          exact this.2.2 _ hmem _ (by simp) rfl
        · exact hb (n2 x (List.mem_of_getElem? hx))
      · rw [decide_eq_false hb]
        have hb1 : mget m (key x) 0 = 0 := by omega
        have hb2 : ok x := Classical.not_not.1 fun h => hb (.inr h)
        have hn : key x ∉ (xs.take k).map key := fun h => by rw [i3, if_pos h] at hb1; omega
        refine ⟨⟨?_, ?_⟩, fun z => ?_⟩
        · rw [ht, List.map_append, List.nodup_append]
          exact ⟨i1, by simp, fun a ha b hb => by simp at hb; subst hb; exact fun e => hn (e ▸ ha)⟩
        · rw [ht]; intro y hy
          rcases List.mem_append.1 hy with hy | hy
          · exact i2 y hy
          · simp at hy; subst hy; exact hb2
        · rw [ht, List.map_append]
          by_cases e : key x = z
          · subst e; rw [mget_mput, hb1, if_pos (by simp)]; rfl
          · rw [mget_mput_ne e, i3]
            have : z ∈ List.map key (List.take k xs) ++ List.map key [x] ↔ z ∈ List.map key (List.take k xs) := by simp [Ne.symm e]
            simp only [this])
  cases o with
  | ret r => obtain ⟨rfl, h3⟩ := h2; exact .inr ⟨h3, h1⟩
  | brk s => exact h2.elim
  | nxt s =>
    have := h2.resolve_right id
    rw [List.take_length] at this
    exact .inl ⟨this.1, s, h1⟩
theorem LanRight_eq (l : LanT) (hf : FewL l) : lan_Right l = some (decide (LR l)) := by
  unfold lan_Right
  rw [in_eq, Option.bind_some]
  by_cases h : (1 ≤ l.Segs ∧ l.Segs ≤ 8) ∧ l.Plans.length ≤ 6 ∧ l.Hosts.length ≤ 8
  · have a1 : ¬ (6 < ((l.Plans.length : Nat) : Int)) := by omega
    have a2 : ¬ (8 < ((l.Hosts.length : Nat) : Int)) := by omega
    rw [decide_eq_true h.1, decide_eq_false a1, decide_eq_false a2]
    simp only [Bool.not_true, cond_false]
    rcases cnt_loop (body := lan_Right_b2 l) (xs := l.Plans) (by omega) (fun p => p.ID) (PlanOk l.Segs) (fun k x m hx m1 m2 => by
      have hx := List.mem_of_getElem? hx
      unfold lan_Right_b2
      simp only [w64_succ (n := mget m x.ID 0) (by omega) (by omega), isPlan_eq x l.Segs (by omega) (by omega) (by have := hf.ports x hx; omega), gd_some, Option.bind_some]
      by_cases hb : 0 < mget m x.ID 0
      · have : 1 < mget m x.ID 0 + 1 := by omega
        simp [hb, this]
      · have : ¬ 1 < mget m x.ID 0 + 1 := by omega
        by_cases hp : PlanOk l.Segs x <;> simp [hb, this, hp]) with ⟨b1, s, b2⟩ | ⟨b1, b2⟩
    · rw [b2, aft_some_nxt]
      rcases cnt_loop (body := lan_Right_b4 l) (xs := l.Hosts) (by omega) (fun p => p.Mac) (HostOk l.Segs) (fun k x m hx m1 m2 => by
        have hx := List.mem_of_getElem? hx
        unfold lan_Right_b4
        simp only [w64_succ (n := mget m x.Mac 0) (by omega) (by omega), w64_pred (n := l.Segs) (by omega) (by omega), macClass_eq, in_eq, gd_some, Option.bind_some]
        by_cases hb : 0 < mget m x.Mac 0
        · have : 1 < mget m x.Mac 0 + 1 := by omega
          simp [hb, this]
        · have hb' : ¬ 1 < mget m x.Mac 0 + 1 := by omega
          by_cases hr : 0 ≤ x.Mac ∧ x.Mac < 281474976710656
          · by_cases hc : classN x.Mac = 0
            · have hu : Uni x.Mac := (uni_iff _).2 ⟨hr, hc⟩
              by_cases hs : 0 ≤ x.Seg ∧ x.Seg ≤ l.Segs - 1
              · have : HostOk l.Segs x := ⟨hu, by omega, by omega⟩
                simp [hb, hb', hr, hc, hs, this]
              · have : ¬ HostOk l.Segs x := fun hh => hs ⟨hh.2.1, by have := hh.2.2; omega⟩
                simp [hb, hb', hr, hc, hs, this]
            · have : ¬ HostOk l.Segs x := fun hh => hc ((uni_iff _).1 hh.1).2
              simp [hb, hb', hr, hc, this]
          · have : ¬ HostOk l.Segs x := fun hh => hr ((uni_iff _).1 hh.1).1
            simp [hb, hb', hr, this]) with ⟨c1, s', c2⟩ | ⟨c1, c2⟩
      · rw [c2, aft_some_nxt, decide_eq_true ((LR.iff l).2 ⟨h, b1, c1⟩)]
      · rw [c2, aft_some_ret, decide_eq_false (fun hh => c1 ((LR.iff l).1 hh).2.2)]
    · rw [b2, aft_some_ret, decide_eq_false (fun hh => b1 ((LR.iff l).1 hh).2.1)]
  · rw [decide_eq_false (fun hh => h ((LR.iff l).1 hh).1)]
    by_cases h1 : 1 ≤ l.Segs ∧ l.Segs ≤ 8
    · by_cases h2 : l.Plans.length ≤ 6
      · have : 8 < ((l.Hosts.length : Nat) : Int) := by omega
        simp [h1, this]
      · have : 6 < ((l.Plans.length : Nat) : Int) := by omega
        simp [h1, this]
    · simp [h1]
end Go.RX
