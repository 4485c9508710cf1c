/- Plans, plainly: which may be, and what the first functions of layer 15 answer. -/
import Derived.Test.YtknjenjjhdhemaaMp
import Derived.Test.YtknjenjjhdhemaaCmp
import Derived.Test.YtknjenjjhdhemaaJb
import Derived.Test.YtknjenjjhdhemaaGen
import Derived.Test.YtknjenjjhdhemaaJd
set_option linter.unusedVariables false
set_option linter.unusedSimpArgs false
open Go Go.RX
namespace Go.RX
section
def fewL (l : LanT) : LanT := ⟨l.Segs, (l.Plans.take 8).map fun p => ⟨p.ID, p.Ports.take 10⟩, l.Hosts.take 12⟩
structure FewL (l : LanT) : Prop where
  plans : l.Plans.length ≤ 8
  ports : ∀ p ∈ l.Plans, p.Ports.length ≤ 10
  hosts : l.Hosts.length ≤ 12
theorem fewL_few (l : LanT) : FewL (fewL l) where
  plans := by show (List.map _ _).length ≤ 8; rw [List.length_map, List.length_take]; omega
  ports p hp := by
    obtain ⟨q, _, rfl⟩ := List.mem_map.1 hp
    show (q.Ports.take 10).length ≤ 10
    rw [List.length_take]; omega
  hosts := by show (l.Hosts.take 12).length ≤ 12; rw [List.length_take]; omega
theorem in_eq (n a b : Int) : lan_in n a b = some (decide (a ≤ n ∧ n ≤ b)) := by
  unfold lan_in
  by_cases h : a ≤ n <;> simp [h]
/-- A station's address. -/
def Uni (a : Int) : Prop := 0 ≤ a ∧ a < 281474976710656 ∧ a / 16 ≠ 103282638848 ∧ a / 1099511627776 % 2 = 0
instance (a : Int) : Decidable (Uni a) := by unfold Uni; infer_instance
theorem macRight_eq (a : Int) : mac_Right a = some (decide (0 ≤ a ∧ a < 281474976710656)) := by
  unfold mac_Right
  by_cases h : 0 ≤ a
  · by_cases h2 : a < 281474976710656
    · have : a ≤ 281474976710655 := by omega
      simp [h, h2, this]
    · have : ¬ a ≤ 281474976710655 := by omega
      simp [h, h2, this]
  · simp [h]
def classN (a : Int) : Int := if a / 16 = 103282638848 then 2 else a / 1099511627776 % 2
theorem macClass_eq (a : Int) : mac_Class a = some (if 0 ≤ a ∧ a < 281474976710656 then (classN a, 0) else (0, 1)) := by
  unfold mac_Class
  rw [macRight_eq, Option.bind_some]
  by_cases h : 0 ≤ a ∧ a < 281474976710656
  · rw [decide_eq_true h, if_pos h, bit_andNot15 h.1 h.2, bit_and1 h.1 h.2]
    unfold classN
    by_cases h2 : a / 16 = 103282638848
    · simp [h2]
    · have : ¬ a / 16 * 16 = 1652522221568 := by omega
      simp [h2, this]
  · rw [decide_eq_false h, if_neg h]; rfl
theorem uni_iff (a : Int) : Uni a ↔ (0 ≤ a ∧ a < 281474976710656) ∧ classN a = 0 := by
  unfold Uni classN
  split <;> omega
/-- A port, a bridge, a station that may be. -/
def LinkOk (n : Int) (x : LinkT) : Prop := (0 ≤ x.Seg ∧ x.Seg < n) ∧ 1 ≤ x.Cost ∧ x.Cost ≤ 1000
instance (n : Int) (x : LinkT) : Decidable (LinkOk n x) := by unfold LinkOk; infer_instance
def PlanOk (n : Int) (p : PlanT) : Prop := (0 ≤ p.ID ∧ p.ID ≤ 65535) ∧ (1 ≤ p.Ports.length ∧ p.Ports.length ≤ 8) ∧ ∀ x ∈ p.Ports, LinkOk n x
instance (n : Int) (p : PlanT) : Decidable (PlanOk n p) := by unfold PlanOk; infer_instance
def HostOk (n : Int) (h : HostT) : Prop := Uni h.Mac ∧ 0 ≤ h.Seg ∧ h.Seg < n
instance (n : Int) (h : HostT) : Decidable (HostOk n h) := by unfold HostOk; infer_instance
/-- A plan that may be. -/
structure LR (l : LanT) : Prop where
  segs : 1 ≤ l.Segs ∧ l.Segs ≤ 8
  plans : l.Plans.length ≤ 6
  hosts : l.Hosts.length ≤ 8
  ids : (l.Plans.map (·.ID)).Nodup
  macs : (l.Hosts.map (·.Mac)).Nodup
  plan : ∀ p ∈ l.Plans, PlanOk l.Segs p
  host : ∀ h ∈ l.Hosts, HostOk l.Segs h
theorem LR.iff (l : LanT) : LR l ↔ ((1 ≤ l.Segs ∧ l.Segs ≤ 8) ∧ l.Plans.length ≤ 6 ∧ l.Hosts.length ≤ 8) ∧ ((l.Plans.map (·.ID)).Nodup ∧ ∀ p ∈ l.Plans, PlanOk l.Segs p) ∧ (l.Hosts.map (·.Mac)).Nodup ∧ ∀ h ∈ l.Hosts, HostOk l.Segs h :=
  ⟨fun h => ⟨⟨h.segs, h.plans, h.hosts⟩, ⟨h.ids, h.plan⟩, h.macs, h.host⟩, fun h => ⟨h.1.1, h.1.2.1, h.1.2.2, h.2.1.1, h.2.2.1, h.2.1.2, h.2.2.2⟩⟩
instance (l : LanT) : Decidable (LR l) := decidable_of_iff _ (LR.iff l).symm
theorem w64_pred {n : Int} (h1 : -1000 ≤ n) (h2 : n ≤ 1000000) : IntKind.i64.wrap (n - 1) = n - 1 := w64_in (by omega) (by omega)
theorem w64_succ {n : Int} (h1 : -1000 ≤ n) (h2 : n ≤ 1000000) : IntKind.i64.wrap (n + 1) = n + 1 := w64_in (by omega) (by omega)
theorem isPlan1_eq (x : LinkT) (n : Int) (h1 : -1000 ≤ n) (h2 : n ≤ 1000000) : lan_isPlan_1 x n = some (decide (¬ LinkOk n x)) := by
  unfold lan_isPlan_1
  rw [in_eq, in_eq, Option.bind_some, gd_some, Option.bind_some, w64_pred h1 h2]
  congr 1
  unfold LinkOk
  by_cases h : 0 ≤ x.Seg ∧ x.Seg ≤ n - 1
  · have h' : 0 ≤ x.Seg ∧ x.Seg < n := by omega
    by_cases k : 1 ≤ x.Cost ∧ x.Cost ≤ 1000 <;> simp [h, h', k]
  · have h' : ¬ (0 ≤ x.Seg ∧ x.Seg < n) := by omega
    simp [h, h']
theorem containsLink_eq (l : List LinkT) (q : LinkT → Option Bool) (p : LinkT → Bool) (hl : l.length ≤ 1000000) (hq : ∀ x ∈ l, q x = some (p x)) : slices_ContainsFunc_Link l q = some (l.any p) := by
  unfold slices_ContainsFunc_Link slices_IndexFunc_Link
  rcases rangeL_find (s0 := ()) (body := slices_IndexFunc_Link_c0 q) hl (fun _ x => p x) (fun k _ => ((k : Nat) : Int)) (fun k x hx => by
    unfold slices_IndexFunc_Link_c0
    rw [hq x (List.mem_of_getElem? hx), Option.bind_some]; cases p x <;> rfl) with ⟨k, x, hx, hp, _, h⟩ | ⟨hp, h⟩
  · rw [h, aft_some_ret, Option.bind_some, show l.any p = true from List.any_eq_true.2 ⟨x, List.mem_of_getElem? hx, hp⟩, decide_eq_true (Int.natCast_nonneg k)]
  · rw [h, aft_some_nxt, Option.bind_some, show l.any p = false from List.any_eq_false.2 fun x hx => by obtain ⟨k, hk⟩ := List.getElem?_of_mem hx; simp [hp k x hk]]
    rfl
theorem isPlan_eq (p : PlanT) (n : Int) (h1 : -1000 ≤ n) (h2 : n ≤ 1000000) (hp : p.Ports.length ≤ 1000000) : lan_isPlan p n = some (decide (PlanOk n p)) := by
  unfold lan_isPlan
  rw [in_eq, in_eq, Option.bind_some, gd_some, Option.bind_some, containsLink_eq _ _ (fun x => decide (¬ LinkOk n x)) hp (fun x _ => isPlan1_eq x n h1 h2), Option.bind_some]
  by_cases h : 0 ≤ p.ID ∧ p.ID ≤ 65535
  · by_cases k : 1 ≤ ((p.Ports.length : Nat) : Int) ∧ ((p.Ports.length : Nat) : Int) ≤ 8
    · have k' : 1 ≤ p.Ports.length ∧ p.Ports.length ≤ 8 := by omega
      simp only [h, k, and_self, decide_true, cond_true]
      congr 1
      rw [Bool.eq_iff_iff]
      simp [PlanOk, h, k']
    · have k' : ¬ (1 ≤ p.Ports.length ∧ p.Ports.length ≤ 8) := by omega
      have : ¬ PlanOk n p := fun hh => k' hh.2.1
      simp [h, k, this]
  · have : ¬ PlanOk n p := fun hh => h hh.1
    simp [h, this]
/-- A map counts what was met. -/
theorem cnt_loop {α : Type} {body : Nat → α → List (Int × Int) → Option (Step Bool (List (Int × Int)))} {xs : List α} (hl : xs.length ≤ 1000000) (key : α → Int) (ok : α → Prop) [DecidablePred ok]
    (hs : ∀ k x m, xs[k]? = some x → 0 ≤ mget m (key x) 0 → mget m (key x) 0 ≤ 1000000 → body k x m = some (bif decide (0 < mget m (key x) 0 ∨ ¬ ok x) then .ret false else .nxt (mput m (key x) (mget m (key x) 0 + 1)))) :
    (((xs.map key).Nodup ∧ ∀ x ∈ xs, ok x) ∧ ∃ s, rangeL body xs [] = some (.nxt s)) ∨ (¬ ((xs.map key).Nodup ∧ ∀ x ∈ xs, ok x) ∧ rangeL body xs [] = some (.ret false)) := by
  obtain ⟨o, h1, h2⟩ := rangeL_rec (s0 := []) (body := body) hl
    (fun k m => (((xs.take k).map key).Nodup ∧ ∀ x ∈ xs.take k, ok x) ∧ ∀ z, mget m z 0 = if z ∈ (xs.take k).map key then 1 else 0)
    (fun r => r = false ∧ ¬ ((xs.map key).Nodup ∧ ∀ x ∈ xs, ok x)) (fun _ => False) (by simp [mget_nil]) (fun k x m hx ⟨⟨i1, i2⟩, i3⟩ => by
      have ht : xs.take (k + 1) = xs.take k ++ [x] := by rw [List.take_add_one, hx]; rfl
      have hr : mget m (key x) 0 = 0 ∨ mget m (key x) 0 = 1 := by rw [i3]; split <;> simp
      refine ⟨_, hs k x m hx (by omega) (by omega), ?_⟩
      by_cases hb : 0 < mget m (key x) 0 ∨ ¬ ok x
      · rw [decide_eq_true hb]
        refine ⟨rfl, fun ⟨n1, n2⟩ => ?_⟩
        rcases hb with hb | hb
        · have hmem : key x ∈ (xs.take k).map key := by
            rw [i3] at hb; split at hb
            · assumption
            · omega
          have : (xs.take (k + 1)).Sublist xs := List.take_sublist _ _
          have := (this.map key).nodup n1
          rw [ht, List.map_append, List.nodup_append] at this
          exact this.2.2 _ hmem _ (by simp) rfl
        · exact hb (n2 x (List.mem_of_getElem? hx))
      · rw [decide_eq_false hb]
        have hb1 : mget m (key x) 0 = 0 := by omega
        have hb2 : ok x := Classical.not_not.1 fun h => hb (.inr h)
        have hn : key x ∉ (xs.take k).map key := fun h => by rw [i3, if_pos h] at hb1; omega
        refine ⟨⟨?_, ?_⟩, fun z => ?_⟩
        · rw [ht, List.map_append, List.nodup_append]
          exact ⟨i1, by simp, fun a ha b hb => by simp at hb; subst hb; exact fun e => hn (e ▸ ha)⟩
        · rw [ht]; intro y hy
          rcases List.mem_append.1 hy with hy | hy
          · exact i2 y hy
          · simp at hy; subst hy; exact hb2
        · rw [ht, List.map_append]
          by_cases e : key x = z
          · subst e; rw [mget_mput, hb1, if_pos (by simp)]; rfl
          · rw [mget_mput_ne e, i3]
            have : z ∈ List.map key (List.take k xs) ++ List.map key [x] ↔ z ∈ List.map key (List.take k xs) := by simp [Ne.symm e]
            simp only [this])
  cases o with
  | ret r => obtain ⟨rfl, h3⟩ := h2; exact .inr ⟨h3, h1⟩
  | brk s => exact h2.elim
  | nxt s =>
    have := h2.resolve_right id
    rw [List.take_length] at this
    exact .inl ⟨this.1, s, h1⟩
theorem LanRight_eq (l : LanT) (hf : FewL l) : lan_Right l = some (decide (LR l)) := by
  unfold lan_Right
  rw [in_eq, Option.bind_some]
  by_cases h : (1 ≤ l.Segs ∧ l.Segs ≤ 8) ∧ l.Plans.length ≤ 6 ∧ l.Hosts.length ≤ 8
  · have a1 : ¬ (6 < ((l.Plans.length : Nat) : Int)) := by omega
    have a2 : ¬ (8 < ((l.Hosts.length : Nat) : Int)) := by omega
    rw [decide_eq_true h.1, decide_eq_false a1, decide_eq_false a2]
    simp only [Bool.not_true, cond_false]
    rcases cnt_loop (body := lan_Right_c0 l) (xs := l.Plans) (by omega) (fun p => p.ID) (PlanOk l.Segs) (fun k x m hx m1 m2 => by
      have hx := List.mem_of_getElem? hx
      unfold lan_Right_c0
      simp only [w64_succ (n := mget m x.ID 0) (by omega) (by omega), isPlan_eq x l.Segs (by omega) (by omega) (by have := hf.ports x hx; omega), gd_some, Option.bind_some]
      by_cases hb : 0 < mget m x.ID 0
      · have : 1 < mget m x.ID 0 + 1 := by omega
        simp [hb, this]
      · have : ¬ 1 < mget m x.ID 0 + 1 := by omega
        by_cases hp : PlanOk l.Segs x <;> simp [hb, this, hp]) with ⟨b1, s, b2⟩ | ⟨b1, b2⟩
    · rw [b2, aft_some_nxt]
      rcases cnt_loop (body := lan_Right_c1 l) (xs := l.Hosts) (by omega) (fun p => p.Mac) (HostOk l.Segs) (fun k x m hx m1 m2 => by
        have hx := List.mem_of_getElem? hx
        unfold lan_Right_c1
        simp only [w64_succ (n := mget m x.Mac 0) (by omega) (by omega), w64_pred (n := l.Segs) (by omega) (by omega), macClass_eq, in_eq, gd_some, Option.bind_some]
        by_cases hb : 0 < mget m x.Mac 0
        · have : 1 < mget m x.Mac 0 + 1 := by omega
          simp [hb, this]
        · have hb' : ¬ 1 < mget m x.Mac 0 + 1 := by omega
          by_cases hr : 0 ≤ x.Mac ∧ x.Mac < 281474976710656
          · by_cases hc : classN x.Mac = 0
            · have hu : Uni x.Mac := (uni_iff _).2 ⟨hr, hc⟩
              by_cases hs : 0 ≤ x.Seg ∧ x.Seg ≤ l.Segs - 1
              · have : HostOk l.Segs x := ⟨hu, by omega, by omega⟩
                simp [hb, hb', hr, hc, hs, this]
              · have : ¬ HostOk l.Segs x := fun hh => hs ⟨hh.2.1, by have := hh.2.2; omega⟩
                simp [hb, hb', hr, hc, hs, this]
            · have : ¬ HostOk l.Segs x := fun hh => hc ((uni_iff _).1 hh.1).2
              simp [hb, hb', hr, hc, this]
          · have : ¬ HostOk l.Segs x := fun hh => hr ((uni_iff _).1 hh.1).1
            simp [hb, hb', hr, this]) with ⟨c1, s', c2⟩ | ⟨c1, c2⟩
      · rw [c2, aft_some_nxt, decide_eq_true ((LR.iff l).2 ⟨h, b1, c1⟩)]
      · rw [c2, aft_some_ret, decide_eq_false (fun hh => c1 ((LR.iff l).1 hh).2.2)]
    · rw [b2, aft_some_ret, decide_eq_false (fun hh => b1 ((LR.iff l).1 hh).2.1)]
  · rw [decide_eq_false (fun hh => h ((LR.iff l).1 hh).1)]
    by_cases h1 : 1 ≤ l.Segs ∧ l.Segs ≤ 8
    · by_cases h2 : l.Plans.length ≤ 6
      · have : 8 < ((l.Hosts.length : Nat) : Int) := by omega
        simp [h1, this]
      · have : 6 < ((l.Plans.length : Nat) : Int) := by omega
        simp [h1, this]
    · simp [h1]
end
section
theorem containsInt_eq (l : List Int) (a : Int) (hl : l.length ≤ 1000000) : slices_Contains_int l a = some (decide (a ∈ l)) := by
  unfold slices_Contains_int slices_Index_int
  rcases rangeL_find (s0 := ()) (body := slices_Index_int_c0 a) hl (fun _ x => decide (a = x)) (fun k _ => ((k : Nat) : Int)) (fun k x hx => by
    unfold slices_Index_int_c0; cases decide (a = x) <;> rfl) with ⟨k, x, hx, hp, _, h⟩ | ⟨hp, h⟩
  · rw [h, aft_some_ret, Option.bind_some, decide_eq_true (Int.natCast_nonneg k), decide_eq_true (of_decide_eq_true hp ▸ List.mem_of_getElem? hx)]
  · rw [h, aft_some_nxt, Option.bind_some, show decide (a ∈ l) = false from decide_eq_false (fun hx => by obtain ⟨k, hk⟩ := List.getElem?_of_mem hx; exact absurd rfl (of_decide_eq_false (hp k a hk)))]
    rfl
/-- The segments of the ports that are up. -/
def ups (p : PlanT) : List Int := (p.Ports.filter (·.Up)).map (·.Seg)
def ed (l : LanT) : List (List Int) := l.Plans.map ups
theorem mem_ups {p : PlanT} {s : Int} : s ∈ ups p ↔ ∃ x ∈ p.Ports, x.Up = true ∧ x.Seg = s := by
  unfold ups
  rw [List.mem_map]
  constructor
  · rintro ⟨x, hx, e⟩; rw [List.mem_filter] at hx; exact ⟨x, hx.1, hx.2, e⟩
  · rintro ⟨x, hx, h, e⟩; exact ⟨x, List.mem_filter.2 ⟨hx, h⟩, e⟩
theorem jn_ed {l : LanT} {a b : Int} : Jn (ed l) a b ↔ ∃ p ∈ l.Plans, a ∈ ups p ∧ b ∈ ups p := by
  unfold Jn ed
  constructor
  · rintro ⟨q, hq, h⟩; obtain ⟨p, hp, rfl⟩ := List.mem_map.1 hq; exact ⟨p, hp, h⟩
  · rintro ⟨p, hp, h⟩; exact ⟨_, List.mem_map_of_mem hp, h⟩
theorem LR.bnd {l : LanT} (h : LR l) : Bnd l.Segs.toNat (ed l) := fun q hq x hx => by
  obtain ⟨p, hp, rfl⟩ := List.mem_map.1 hq
  obtain ⟨y, hy, _, rfl⟩ := mem_ups.1 hx
  have := ((h.plan p hp).2.2 y hy).1
  have := h.segs
  omega
/-- How many parts, and loops. -/
noncomputable def partsN (l : LanT) : Nat := cnt (Rc (ed l)) l.Segs.toNat
theorem lst_iff {l : LanT} {k : Nat} : Lst (Rc (ed l)) k ↔ ¬ ∃ t : Nat, t < k ∧ Rc (ed l) t k := by
  unfold Lst
  exact ⟨fun h ⟨t, h1, h2⟩ => h t h1 h2, fun h t h1 h2 => h ⟨t, h1, h2⟩⟩
theorem cnt_le {R : Int → Int → Prop} : ∀ n, cnt R n ≤ n
  | 0 => Nat.le_refl _
  | n + 1 => by
    have := cnt_le (R := R) n
    unfold cnt
    split <;> omega
/-- The places that may join. -/
def slack (l : LanT) : Nat := ((ed l).map fun p => p.length - 1).sum
theorem slack_le (l : LanT) (hf : FewL l) : slack l ≤ 80 := by
  have key : ∀ ps : List PlanT, (∀ p ∈ ps, p.Ports.length ≤ 10) → ((ps.map ups).map fun p => p.length - 1).sum ≤ 10 * ps.length := by
    intro ps
    induction ps with
    | nil => intro _; simp
    | cons p ps ih =>
      intro h
      have h1 := ih fun q hq => h q (List.mem_cons_of_mem _ hq)
      have h2 := h p (List.mem_cons_self ..)
      have h3 : (ups p).length ≤ p.Ports.length := by unfold ups; rw [List.length_map]; exact List.length_filter_le _ _
      simp only [List.map_cons, List.sum_cons, List.length_cons]
      omega
  have := key l.Plans hf.ports
  have := hf.plans
  show ((l.Plans.map ups).map _).sum ≤ 80
  omega
theorem rc2 : Rc [[0, 1], [0, 1]] 0 1 := .one ⟨[0, 1], by simp, by simp, by simp⟩
end
section
theorem repeat_eq (n : Int) (h : 1 ≤ n ∧ n ≤ 8) : slices_Repeat_int [-1] n = some (List.replicate n.toNat (-1)) := by
  have : n = 1 ∨ n = 2 ∨ n = 3 ∨ n = 4 ∨ n = 5 ∨ n = 6 ∨ n = 7 ∨ n = 8 := by omega
  rcases this with rfl | rfl | rfl | rfl | rfl | rfl | rfl | rfl <;> decide +kernel
theorem get_lt {l : List Int} {k : Nat} (h : k < l.length) : l[k]? = some l[k] := List.getElem?_eq_getElem h
/-- A rising row, made thin. -/
theorem compact_in {l : List Int} (hl : l.length ≤ 900000) (hs : l.Pairwise (· ≤ ·)) {k : Nat} (hk0 : 1 ≤ k) (hk : k < l.length) (hasc : (l.take k).Pairwise (· < ·)) (he : l[k]? = l[k - 1]?) :
    ∃ (i : Nat) (L : List Int), loopF 1000000 (slices_Compact_int_c1 ((k : Int), l)) ((k : Int), 1, l) = some (.nxt (((i : Nat) : Int), ((l.length - k : Nat) : Int), L)) ∧ i < l.length ∧ L.length = l.length ∧ (L.take i).Pairwise (· < ·) ∧ ∀ x, x ∈ L.take i ↔ x ∈ l := by
  have hle : ∀ {a b : Nat} (hb : b < l.length) (hab : a ≤ b), l[a]'(by omega) ≤ l[b] := fun {a b} hb hab => by
    rcases Nat.lt_or_eq_of_le hab with h | h
    · exact List.pairwise_iff_getElem.1 hs a b (by omega) hb h
    · subst h; exact Int.le_refl _
  obtain ⟨o, h1, h2⟩ := loopF_rec (body := slices_Compact_int_c1 ((k : Int), l)) (fun s => l.length - s.2.1.toNat)
    (fun s => ∃ (i m : Nat), s.1 = (i : Int) ∧ s.2.1 = (m : Int) ∧ 1 ≤ m ∧ k + m ≤ l.length ∧ k ≤ i ∧ i + 1 ≤ k + m ∧ s.2.2.length = l.length ∧ (∀ j, i ≤ j → s.2.2[j]? = l[j]?) ∧ (s.2.2.take i).Pairwise (· < ·) ∧
      (∀ x, x ∈ s.2.2.take i ↔ x ∈ l.take (k + m)) ∧ s.2.2[i - 1]? = l[k + m - 1]?)
    (fun _ => False) (fun s => ∃ (i : Nat), s.1 = (i : Int) ∧ s.2.1 = ((l.length - k : Nat) : Int) ∧ i < l.length ∧ s.2.2.length = l.length ∧ (s.2.2.take i).Pairwise (· < ·) ∧ ∀ x, x ∈ s.2.2.take i ↔ x ∈ l)
    (fun s ⟨i, m, e1, e2, m1, m2, i1, i2, hL, hun, has, hmem, hlast⟩ => by
      obtain ⟨s1, s2, L⟩ := s
      dsimp only at e1 e2 hL hun has hmem hlast
      subst e1; subst e2
      unfold slices_Compact_int_c1
      dsimp only
      rw [Int.toNat_natCast]
      by_cases hm : k + m < l.length
      · have u1 : L[k + m]? = some l[k + m] := by rw [hun _ (by omega), get_lt hm]
        have u2 : L[k + (m - 1)]? = some (l[k + (m - 1)]'(by omega)) := by
          rw [hun _ (by omega), get_lt (by omega)]
        rw [decide_eq_true (show ((m : Nat) : Int) < ((L.length - k : Nat) : Int) by omega), cond_true, grd_true ⟨by omega, by omega⟩]
        unfold gixN
        rw [Int.toNat_natCast, u1, Option.bind_some, w64_in (x := ((m : Nat) : Int) - 1) (by omega) (by omega), grd_true ⟨by omega, by omega⟩, show (((m : Nat) : Int) - 1).toNat = m - 1 by omega, u2, Option.bind_some]
        have hidx : k + (m - 1) = k + m - 1 := by omega
        have htk : l.take (k + (m + 1)) = l.take (k + m) ++ [l[k + m]] := by rw [show k + (m + 1) = k + m + 1 by omega, List.take_add_one, get_lt hm]; rfl
        have hlast' : L[i - 1]? = some (l[k + (m - 1)]'(by omega)) := by rw [hlast, ← hidx, get_lt (by omega)]
        by_cases e : l[k + m] = l[k + (m - 1)]'(by omega)
        · rw [decide_eq_true e, Bool.not_true, cond_false, w64_in (by omega) (by omega)]
          refine ⟨_, rfl, ⟨i, m + 1, rfl, by show ((m : Nat) : Int) + 1 = _; omega, by omega, by omega, i1, by omega, hL, hun, has, fun x => ?_, ?_⟩, ?_⟩
          · show x ∈ L.take i ↔ _
            rw [htk, hmem x]
            constructor
            · exact fun h => List.mem_append_left _ h
            · intro h
              rcases List.mem_append.1 h with h | h
              · exact h
              · obtain rfl := List.mem_singleton.1 h
                rw [e]
                exact List.mem_of_getElem? (i := k + (m - 1)) (by rw [List.getElem?_take, if_pos (by omega), get_lt (by omega)])
          · show L[i - 1]? = _
            rw [hlast', show k + (m + 1) - 1 = k + m by omega, get_lt hm, e]
          · show l.length - (((m : Nat) : Int) + 1).toNat < l.length - (((m : Nat) : Int)).toNat; omega
        · rw [decide_eq_false e, Bool.not_false, cond_true, grd_true ⟨by omega, by omega⟩, grd_true ⟨by omega, by omega⟩, Int.toNat_natCast, get_lt (show i < L.length by omega), Option.bind_some, w64_in (by omega) (by omega), w64_in (by omega) (by omega)]
          have hnew : (L.set i l[k + m]).take (i + 1) = L.take i ++ [l[k + m]] := by
            rw [List.take_add_one, List.getElem?_set_self (by omega), List.take_set_of_le (Nat.le_refl i)]; rfl
          refine ⟨_, rfl, ⟨i + 1, m + 1, by show ((i : Nat) : Int) + 1 = _; omega, by show ((m : Nat) : Int) + 1 = _; omega, by omega, by omega, by omega, by omega, ?_, fun j hj => ?_, ?_, fun x => ?_, ?_⟩, ?_⟩
          · show (L.set _ _).length = _; rw [List.length_set, hL]
          · show (L.set i _)[j]? = _; rw [List.getElem?_set_ne (by omega)]; exact hun j (by omega)
          · show ((L.set i l[k + m]).take (i + 1)).Pairwise _
            rw [hnew, List.pairwise_append]
            refine ⟨has, by simp, fun x hx y hy => ?_⟩
            obtain rfl := List.mem_singleton.1 hy
            have hx' := (hmem x).1 hx
            obtain ⟨j, hj⟩ := List.getElem?_of_mem hx'
            have hjl : j < k + m := by have := (List.getElem?_eq_some_iff.1 hj).1; rw [List.length_take] at this; omega
            rw [List.getElem?_take, if_pos hjl, get_lt (by omega)] at hj
            obtain rfl := Option.some.inj hj
            have a1 := hle (a := j) (b := k + (m - 1)) (by omega) (by omega)
            have a2 := hle (a := k + (m - 1)) (b := k + m) hm (by omega)
            omega
          · show x ∈ (L.set i l[k + m]).take (i + 1) ↔ _
            rw [hnew, htk, List.mem_append, List.mem_append, hmem x]
          · show (L.set i l[k + m])[i + 1 - 1]? = _
            rw [show i + 1 - 1 = i by omega, List.getElem?_set_self (by omega), show k + (m + 1) - 1 = k + m by omega, get_lt hm]
          · show l.length - (((m : Nat) : Int) + 1).toNat < l.length - (((m : Nat) : Int)).toNat; omega
      · rw [decide_eq_false (show ¬ ((m : Nat) : Int) < ((L.length - k : Nat) : Int) by omega)]
        have hkm : k + m = l.length := by omega
        refine ⟨_, rfl, i, rfl, by show ((m : Nat) : Int) = _; omega, by omega, hL, has, fun x => ?_⟩
        rw [hmem x, hkm, List.take_length]) 1000000 ((k : Int), 1, l)
    ⟨k, 1, rfl, rfl, Nat.le_refl _, by omega, Nat.le_refl _, by omega, rfl, fun j _ => rfl, hasc, fun x => by
      show x ∈ l.take k ↔ _
      rw [List.take_add_one, get_lt hk]
      constructor
      · exact fun h => List.mem_append_left _ h
      · intro h
        rcases List.mem_append.1 h with h | h
        · exact h
        · have h : x ∈ [l[k]] := h
          obtain rfl := List.mem_singleton.1 h
          rw [get_lt hk] at he
          exact List.mem_of_getElem? (i := k - 1) (by rw [List.getElem?_take, if_pos (by omega), ← he]), by
      show l[k - 1]? = _
      rw [show k + 1 - 1 = k by omega, he]⟩ (by show l.length - _ < _; omega)
  cases o with
  | ret r => exact h2.elim
  | brk s => exact h2.elim
  | nxt s =>
    obtain ⟨s1, s2, L⟩ := s
    obtain ⟨i, e1, e2, h3, h4, h5, h6⟩ := h2
    dsimp only at e1 e2
    subst e1; subst e2
    exact ⟨i, L, h1, h3, h4, h5, h6⟩
theorem compact_eq (l : List Int) (hl : l.length ≤ 900000) (hs : l.Pairwise (· ≤ ·)) : ∃ r, slices_Compact_int l = some r ∧ r.Pairwise (· < ·) ∧ ∀ x, x ∈ r ↔ x ∈ l := by
  unfold slices_Compact_int
  by_cases h2 : ((l.length : Nat) : Int) < 2
  · rw [decide_eq_true h2]
    refine ⟨l, rfl, ?_, fun x => Iff.rfl⟩
    match l, h2 with
    | [], _ => exact List.Pairwise.nil
    | [a], _ => simp
    | _ :: _ :: _, h => simp at h; omega
  · rw [decide_eq_false h2, cond_false]
    obtain ⟨o, h1, h2⟩ := loopF_rec (body := slices_Compact_int_c0) (fun s => l.length - s.1.toNat)
      (fun s => ∃ k : Nat, s = ((k : Int), l) ∧ 1 ≤ k ∧ k ≤ l.length ∧ (l.take k).Pairwise (· < ·)) (fun r => r.Pairwise (· < ·) ∧ ∀ x, x ∈ r ↔ x ∈ l) (fun s => s.2 = l ∧ l.Pairwise (· < ·))
      (fun s ⟨k, e, k1, k2, k3⟩ => by
        subst e
        unfold slices_Compact_int_c0
        dsimp only
        by_cases hk : k < l.length
        · rw [decide_eq_true (show ((k : Nat) : Int) < ((l.length : Nat) : Int) by omega), cond_true, grd_true ⟨by omega, by omega⟩]
          unfold gixN
          rw [Int.toNat_natCast, get_lt hk, Option.bind_some, w64_in (x := ((k : Nat) : Int) - 1) (by omega) (by omega), grd_true ⟨by omega, by omega⟩, show (((k : Nat) : Int) - 1).toNat = k - 1 by omega, get_lt (show k - 1 < l.length by omega), Option.bind_some]
          by_cases e : l[k] = l[k - 1]
          · obtain ⟨i, L, g1, g2, g3, g4, g5⟩ := compact_in hl hs k1 hk k3 (by rw [get_lt hk, get_lt (show k - 1 < l.length by omega), e])
            rw [decide_eq_true e, cond_true, grd_true ⟨by omega, by omega⟩, g1, aft_some_nxt]
            dsimp only
            rw [grd_true ⟨by omega, by omega⟩, grd_true ⟨by omega, by omega⟩, Int.toNat_natCast]
            exact ⟨_, rfl, g4, g5⟩
          · rw [decide_eq_false e, w64_in (by omega) (by omega)]
            refine ⟨_, rfl, ⟨k + 1, by show (((k : Nat) : Int) + 1, l) = _; rfl, by omega, by omega, ?_⟩, by show l.length - (((k : Nat) : Int) + 1).toNat < l.length - (((k : Nat) : Int)).toNat; omega⟩
            rw [List.take_add_one, get_lt hk]
            show (l.take k ++ [l[k]]).Pairwise _
            rw [List.pairwise_append]
            refine ⟨k3, by simp, fun x hx y hy => ?_⟩
            obtain rfl := List.mem_singleton.1 hy
            obtain ⟨j, hj⟩ := List.getElem?_of_mem hx
            have hjl : j < k := by have := (List.getElem?_eq_some_iff.1 hj).1; rw [List.length_take] at this; omega
            rw [List.getElem?_take, if_pos hjl, get_lt (by omega)] at hj
            obtain rfl := Option.some.inj hj
            have a1 := List.pairwise_iff_getElem.1 hs (k - 1) k (by omega) hk (by omega)
            rcases Nat.lt_or_ge j (k - 1) with h | h
            · have := List.pairwise_iff_getElem.1 hs j (k - 1) (by omega) (by omega) h; omega
            · have : j = k - 1 := by omega
              subst this; omega
        · rw [decide_eq_false (show ¬ ((k : Nat) : Int) < ((l.length : Nat) : Int) by omega)]
          refine ⟨_, rfl, rfl, ?_⟩
          have : k = l.length := by omega
          subst this
          rwa [List.take_length] at k3) 1000000 (1, l) ⟨1, rfl, Nat.le_refl _, by omega, by
        cases l with
        | nil => simp
        | cons a t => simp⟩ (by show l.length - _ < _; omega)
    cases o with
    | ret r => exact ⟨r, by rw [h1]; rfl, h2.1, h2.2⟩
    | brk s => exact h2.elim
    | nxt s => exact ⟨l, by rw [h1, aft_some_nxt, h2.1], h2.2, fun x => Iff.rfl⟩
theorem sort_le (l : List Int) : (l.mergeSort fun x y => decide (x ≤ y)).Pairwise (· ≤ ·) :=
  (List.pairwise_mergeSort (le := fun x y : Int => decide (x ≤ y)) (fun a b c h1 h2 => by rw [decide_eq_true_eq] at *; omega) (fun a b => by rw [Bool.or_eq_true, decide_eq_true_eq, decide_eq_true_eq]; omega) l).imp fun h => of_decide_eq_true h
/-- The neighbours of a segment, rising. -/
theorem near_eq (s : Int) (E : List (List Int)) (hE : E.length ≤ 100) (hq : ∀ q ∈ E, q.length ≤ 100) : ∃ r, flood_neighbours_1 s E = some r ∧ r.Pairwise (· < ·) ∧ ∀ t, t ∈ r ↔ Jn E s t := by
  unfold flood_neighbours_1
  obtain ⟨u, h1, h2, h3⟩ := rangeL_inv (ρ := List Int) (body := flood_neighbours_1_c0 s) (xs := E) (s0 := []) (by omega) (fun k u => u.length ≤ 100 * k ∧ ∀ t, t ∈ u ↔ Jn (E.take k) s t) ⟨by simp, fun t => by
    simp [Jn]⟩ (fun k q u hk ⟨u1, u2⟩ => by
      have hkl := (List.getElem?_eq_some_iff.1 hk).1
      have hqm := hq q (List.mem_of_getElem? hk)
      unfold flood_neighbours_1_c0
      rw [containsInt_eq _ _ (by omega), Option.bind_some]
      have ht : E.take (k + 1) = E.take k ++ [q] := by rw [List.take_add_one, hk]; rfl
      have key : ∀ t, Jn (E.take (k + 1)) s t ↔ Jn (E.take k) s t ∨ (s ∈ q ∧ t ∈ q) := fun t => by
        unfold Jn
        rw [ht]
        constructor
        · rintro ⟨p, hp, h⟩
          rcases List.mem_append.1 hp with hp | hp
          · exact .inl ⟨p, hp, h⟩
          · obtain rfl := List.mem_singleton.1 hp; exact .inr h
        · rintro (⟨p, hp, h⟩ | h)
          · exact ⟨p, List.mem_append_left _ hp, h⟩
          · exact ⟨q, List.mem_append_right _ (List.mem_singleton.2 rfl), h⟩
      by_cases hs : s ∈ q
      · rw [decide_eq_true hs, cond_true, grd_true (fits_of (by rw [List.length_append]; omega) (by decide))]
        refine ⟨_, rfl, by rw [List.length_append]; omega, fun t => ?_⟩
        rw [key, List.mem_append, u2 t]
        simp [hs]
      · rw [decide_eq_false hs]
        refine ⟨_, rfl, by omega, fun t => ?_⟩
        rw [key, u2 t]; simp [hs])
  rw [List.take_length] at h3
  rw [h1, aft_some_nxt]
  unfold slices_Sort_int
  have hlen : u.length ≤ 10000 := by
    have := Nat.mul_le_mul_left 100 hE
    omega
  rw [grd_true (by omega), Option.bind_some]
  obtain ⟨r, r1, r2, r3⟩ := compact_eq (u.mergeSort fun x y => decide (x ≤ y)) (by rw [List.length_mergeSort]; omega) (sort_le u)
  exact ⟨r, by rw [r1]; rfl, r2, fun t => (r3 t).trans (sort_mem.trans (h3 t))⟩
/-- A bridge's open ports' segments. -/
def opn (p : PlanT) (o : List Bool) : List Int := (p.Ports.zip o).filterMap fun x => if x.1.Up = true ∧ x.2 = true then some x.1.Seg else none
def edO (l : LanT) (open_ : List (List Bool)) : List (List Int) := (l.Plans.zip open_).map fun x => opn x.1 x.2
/-- Rows that fit a plan. -/
structure Shp (l : LanT) (o : List (List Bool)) : Prop where
  len : o.length = l.Plans.length
  row : ∀ (b : Nat) (p : PlanT) (q : List Bool), l.Plans[b]? = some p → o[b]? = some q → q.length = p.Ports.length
theorem opn_len (p : PlanT) (o : List Bool) : (opn p o).length ≤ p.Ports.length := by
  unfold opn
  refine Nat.le_trans (List.length_filterMap_le _ _) ?_
  rw [List.length_zip]; omega
theorem mem_opn {p : PlanT} {o : List Bool} {s : Int} : s ∈ opn p o ↔ ∃ (k : Nat) (x : LinkT), p.Ports[k]? = some x ∧ o[k]? = some true ∧ x.Up = true ∧ x.Seg = s := by
  unfold opn
  rw [List.mem_filterMap]
  constructor
  · rintro ⟨x, hx, he⟩
    obtain ⟨k, hk⟩ := List.getElem?_of_mem hx
    rw [List.getElem?_zip_eq_some] at hk
    split at he
    · rename_i hc
      exact ⟨k, x.1, hk.1, by rw [hk.2, hc.2], hc.1, Option.some.inj he⟩
    · cases he
  · rintro ⟨k, x, hx, ho, hu, hs⟩
    exact ⟨(x, true), List.mem_of_getElem? (i := k) (List.getElem?_zip_eq_some.2 ⟨hx, ho⟩), by simp [hu, hs]⟩
theorem jn_edO {l : LanT} {o : List (List Bool)} {a b : Int} : Jn (edO l o) a b ↔ ∃ (c : Nat) (p : PlanT) (q : List Bool), l.Plans[c]? = some p ∧ o[c]? = some q ∧ a ∈ opn p q ∧ b ∈ opn p q := by
  unfold Jn edO
  constructor
  · rintro ⟨r, hr, h1, h2⟩
    obtain ⟨x, hx, rfl⟩ := List.mem_map.1 hr
    obtain ⟨c, hc⟩ := List.getElem?_of_mem hx
    rw [List.getElem?_zip_eq_some] at hc
    exact ⟨c, x.1, x.2, hc.1, hc.2, h1, h2⟩
  · rintro ⟨c, p, q, h1, h2, h3, h4⟩
    exact ⟨opn p q, List.mem_map.2 ⟨(p, q), List.mem_of_getElem? (i := c) (List.getElem?_zip_eq_some.2 ⟨h1, h2⟩), rfl⟩, h3, h4⟩
theorem opens_eq (l : LanT) (o : List (List Bool)) (hf : FewL l) (hs : Shp l o) {b : Nat} {p : PlanT} {q : List Bool} (hp : l.Plans[b]? = some p) (hq : o[b]? = some q) : flood_opens l o (b : Int) = some (opn p q) := by
  unfold flood_opens
  rw [gix_nat, hp, Option.bind_some]
  have hpl := hf.ports p (List.mem_of_getElem? hp)
  have hlen := hs.row b p q hp hq
  obtain ⟨u, h1, h2⟩ := rangeL_inv (ρ := List Int) (body := flood_opens_c0 o (b : Int)) (xs := p.Ports) (s0 := []) (by omega) (fun k u => u = ((p.Ports.zip q).take k).filterMap (fun x => if x.1.Up = true ∧ x.2 = true then some x.1.Seg else none) ∧ u.length ≤ k) ⟨by simp, by simp⟩ (fun k x u hk ⟨hu, hul⟩ => by
    have hkl := (List.getElem?_eq_some_iff.1 hk).1
    have hqk : q[k]? = some (q[k]'(by omega)) := List.getElem?_eq_getElem (by omega)
    have hz : (p.Ports.zip q)[k]? = some (x, q[k]'(by omega)) := List.getElem?_zip_eq_some.2 ⟨hk, hqk⟩
    generalize q[k]'(by omega) = v at hqk hz
    unfold flood_opens_c0
    rw [gix_nat, hq, gd_some, Option.bind_some, List.take_add_one, hz, List.filterMap_append, ← hu, grd_true (fits_of (by rw [List.length_append]; simp; omega) (by decide))]
    cases hx : x.Up with
    | false => exact ⟨_, rfl, by simp [hx], by omega⟩
    | true =>
      simp only [gd_true, cond_true]
      rw [gix_nat, hqk, Option.bind_some]
      cases v with
      | false => exact ⟨_, rfl, by simp [hx], by omega⟩
      | true => exact ⟨_, rfl, by simp [hx], by rw [List.length_append]; simp; omega⟩)
  rw [h1, aft_some_nxt, h2.1]
  unfold opn
  have : p.Ports.length = (p.Ports.zip q).length := by rw [List.length_zip]; omega
  rw [this, List.take_length]
theorem neighbours_eq (l : LanT) (o : List (List Bool)) (hf : FewL l) (hs : Shp l o) : flood_neighbours l o = some (edO l o) := by
  unfold flood_neighbours
  have hpl := hf.plans
  obtain ⟨u, h1, h2⟩ := rangeL_inv (ρ := List (List Int)) (body := flood_neighbours_c0 l o) (xs := l.Plans) (s0 := []) (by omega) (fun k u => u = ((l.Plans.zip o).take k).map (fun x => opn x.1 x.2) ∧ u.length ≤ k) ⟨by simp, by simp⟩ (fun k p u hk ⟨hu, hul⟩ => by
    have hkl := (List.getElem?_eq_some_iff.1 hk).1
    have hok : o[k]? = some (o[k]'(by rw [hs.len]; exact hkl)) := List.getElem?_eq_getElem (by rw [hs.len]; exact hkl)
    have hz : (l.Plans.zip o)[k]? = some (p, o[k]'(by rw [hs.len]; exact hkl)) := List.getElem?_zip_eq_some.2 ⟨hk, hok⟩
    generalize o[k]'(by rw [hs.len]; exact hkl) = q at hok hz
    unfold flood_neighbours_c0
    rw [opens_eq l o hf hs hk hok, Option.bind_some, grd_true (fits_of (by rw [List.length_append]; simp; omega) (by decide))]
    exact ⟨_, rfl, by rw [hu, List.take_add_one, hz, List.map_append]; rfl, by rw [List.length_append]; simp; omega⟩)
  rw [h1, aft_some_nxt, h2.1]
  unfold edO
  have : l.Plans.length = (l.Plans.zip o).length := by rw [List.length_zip, hs.len]; omega
  rw [this, List.take_length]
theorem edO_bnd {l : LanT} {o : List (List Bool)} (h : LR l) : ∀ a b, Jn (edO l o) a b → 0 ≤ b ∧ b < l.Segs := fun a b hj => by
  obtain ⟨c, p, q, h1, _, _, h4⟩ := jn_edO.1 hj
  obtain ⟨k, x, hx, _, _, rfl⟩ := mem_opn.1 h4
  exact ((h.plan p (List.mem_of_getElem? h1)).2.2 x (List.mem_of_getElem? hx)).1
theorem dv_some {d : List Int} {s : Int} {n : Nat} (h0 : 0 ≤ s) (hs : s.toNat < d.length) : d[s.toNat]? = some (dv d s) := by
  unfold dv; rw [List.getElem?_eq_getElem hs]; rfl
theorem steps_eq (l : LanT) (o : List (List Bool)) (hf : FewL l) (h : LR l) (hs : Shp l o) (a : Int) (ha : 0 ≤ a ∧ a < l.Segs) : ∃ d, flood_steps l o a = some d ∧ DT (Jn (edO l o)) a l.Segs.toNat d := by
  have hseg := h.segs
  have hN : ((l.Segs.toNat : Nat) : Int) = l.Segs := by omega
  have hG : ∀ x y, Jn (edO l o) x y → 0 ≤ y ∧ y < ((l.Segs.toNat : Nat) : Int) := by rw [hN]; exact edO_bnd h
  have hE1 : (edO l o).length ≤ 100 := by unfold edO; rw [List.length_map, List.length_zip]; have := hf.plans; omega
  have hE2 : ∀ q ∈ edO l o, q.length ≤ 100 := fun q hq => by
    obtain ⟨x, hx, rfl⟩ := List.mem_map.1 hq
    have h1 := opn_len x.1 x.2
    have h2 := hf.ports x.1 (List.of_mem_zip hx).1
    omega
  unfold flood_steps
  rw [repeat_eq l.Segs hseg, Option.bind_some, List.length_replicate, grd_true ⟨ha.1, by omega⟩]
  unfold gixN
  rw [List.getElem?_replicate, if_pos (by omega), Option.bind_some, neighbours_eq l o hf hs, Option.bind_some]
  generalize edO l o = E at hG hE1 hE2
  obtain ⟨u, h1, h2⟩ := loopF_rec (ρ := List Int) (body := flood_steps_c0 E) (fun s => 100 - s.2.1.toNat)
    (fun s => ∃ i : Nat, s.2.1 = (i : Int) ∧ i ≤ s.1.length ∧ QI (Jn E) a l.Segs.toNat i (fun _ => False) s.2.2 s.1) (fun _ => False) (fun s => DT (Jn E) a l.Segs.toNat s.2.2)
    (fun s ⟨i, e, hi, hq⟩ => by
      obtain ⟨q, s2, d⟩ := s
      dsimp only at e hi hq
      subst e
      have hsz := hq.size
      unfold flood_steps_c0
      dsimp only
      by_cases hil : i < q.length
      · rw [decide_eq_true (show ((i : Nat) : Int) < ((q.length : Nat) : Int) by omega), cond_true, grd_true ⟨by omega, by omega⟩]
        unfold gixN
        rw [Int.toNat_natCast]
        have hu : q[i]? = some q[i] := List.getElem?_eq_getElem hil
        rw [hu, Option.bind_some]
        generalize q[i] = w at hu
        obtain ⟨nb, n1, n2, n3⟩ := near_eq w E hE1 hE2
        rw [n1, Option.bind_some]
        have hnl : nb.length ≤ 8 := by
          have := nodup_len (m := upI l.Segs) (n2.imp fun h => by omega) fun x hx => mem_upI.2 (by have := hG w x ((n3 x).1 hx); omega)
          have hu : (upI l.Segs).length = l.Segs.toNat := by simp [upI]
          omega
        obtain ⟨t, t1, t2, t3, t4⟩ := rangeN_inv (ρ := Step (List Int) ((List Int) × Int × (List Int))) (body := flood_steps_c1 (q, (i : Int), d) nb) (n := ((nb.length : Nat) : Int)) (s0 := (q, d)) (by omega)
          (fun m t => QI (Jn E) a l.Segs.toNat i (fun x => x ∈ nb.take m) t.2 t.1 ∧ t.1[i]? = some w ∧ i < t.1.length) ⟨by
            have : (fun x : Int => x ∈ nb.take 0) = fun _ => False := by funext x; simp
            rw [this]; exact hq, hu, hil⟩ (fun m t hm ⟨tq, tw, tl⟩ => by
            obtain ⟨q', d'⟩ := t
            dsimp only at tq tw tl
            have hm' : m < nb.length := by omega
            unfold flood_steps_c1
            rw [grd_true ⟨by omega, by omega⟩, Int.toNat_natCast]
            unfold gixN
            rw [List.getElem?_eq_getElem hm', Option.bind_some]
            have hmem : nb[m] ∈ nb := List.getElem_mem hm'
            have htk : (fun x : Int => x ∈ nb.take (m + 1)) = fun x => x ∈ nb.take m ∨ x = nb[m] := by
              funext x
              rw [List.take_add_one, List.getElem?_eq_getElem hm']
              exact propext (List.mem_append.trans (or_congr Iff.rfl List.mem_singleton))
            have hPb : ∀ x, x ∈ nb.take m → 0 ≤ x ∧ x < ((l.Segs.toNat : Nat) : Int) := fun x hx => hG w x ((n3 x).1 (List.mem_of_mem_take hx))
            rw [htk]
            generalize nb[m] = z at hmem
            have hz := (n3 z).1 hmem
            have hzb := hG w z hz
            have hdl := tq.len
            dsimp only
            rw [grd_true ⟨hzb.1, by omega⟩, dv_some (n := 0) hzb.1 (by omega), Option.bind_some]
            by_cases hv : dv d' z < 0
            · have hwq : w ∈ q' := List.mem_of_getElem? tw
              have hwb := tq.bnd w hwq
              have hwv : ∃ k : Nat, dv d' w = k ∧ Wk (Jn E) a k w := by
                rcases tq.mem w hwb.1 hwb.2 with h1 | h1
                · exact h1.2
                · exact absurd hwq h1.1
              obtain ⟨k, hk, _⟩ := hwv
              have hk8 : (k : Int) ≤ 1000 := by
                have := tq.lvl i w tw
                have := tq.size
                omega
              have hqs := tq.size
              rw [decide_eq_true hv, cond_true, grd_true ⟨by omega, by omega⟩, Int.toNat_natCast, tw, Option.bind_some, grd_true ⟨hwb.1, by omega⟩, dv_some (n := 0) hwb.1 (by omega), Option.bind_some, grd_true ⟨hzb.1, by omega⟩, grd_true (fits_of (by rw [List.length_append]; simp; omega) (by decide)), w64_in (by omega) (by omega)]
              exact ⟨_, rfl, tq.new hG hPb tw hz hv, by show (q' ++ [z])[i]? = some w; rw [List.getElem?_append_left tl]; exact tw, by show i < (q' ++ [z]).length; rw [List.length_append]; omega⟩
            · rw [decide_eq_false hv]
              exact ⟨_, rfl, tq.old tw hzb (by omega), tw, tl⟩)
        rw [t1, aft_some_nxt, w64_in (by omega) (by omega)]
        refine ⟨_, rfl, ⟨i + 1, by show ((i : Nat) : Int) + 1 = _; omega, t4, ?_⟩, ?_⟩
        · refine t2.next t3 fun x hx => ?_
          rw [Int.toNat_natCast, List.take_length]; exact (n3 x).2 hx
        · show 100 - (((i : Nat) : Int) + 1).toNat < 100 - (((i : Nat) : Int)).toNat; omega
      · rw [decide_eq_false (show ¬ ((i : Nat) : Int) < ((q.length : Nat) : Int) by omega)]
        exact ⟨_, rfl, hq.fin (by omega) hG (by omega)⟩) 1000000 ([a], 0, (List.replicate l.Segs.toNat (-1)).set a.toNat 0)
    ⟨0, rfl, by simp, QI.start (by omega) (by rw [List.length_set, List.length_replicate]) (dv_eq ha.1 (by rw [List.length_replicate]; omega)) (fun s s1 s2 s3 => by
      rw [dv_ne s1 ha.1 s3]
      unfold dv; rw [List.getElem?_replicate, if_pos (by omega)]; rfl)⟩ (by show 100 - _ < _; omega)
  cases u with
  | ret r => exact h2.elim
  | brk s => exact h2.elim
  | nxt s => exact ⟨s.2.2, by rw [h1]; rfl, h2⟩
end
section
def rowsL (o : List (List Bool)) : List (List Bool) := (o.take 8).map fun x => x.take 10
structure FewO (o : List (List Bool)) : Prop where
  len : o.length ≤ 8
  row : ∀ x ∈ o, x.length ≤ 10
theorem rowsL_few (o : List (List Bool)) : FewO (rowsL o) where
  len := by unfold rowsL; rw [List.length_map, List.length_take]; omega
  row x hx := by
    obtain ⟨y, _, rfl⟩ := List.mem_map.1 hx
    rw [List.length_take]; omega
open Classical in
theorem fmay_eq (l : LanT) (o : List (List Bool)) (ss : List Int) (hf : FewL l) (hss : ss.length ≤ 100) : flood_may l o ss = some (if LR l ∧ Shp l o then (if ∀ s ∈ ss, 0 ≤ s ∧ s < l.Segs then 0 else 3) else 1) := by
  unfold flood_may
  rw [LanRight_eq l hf, Option.bind_some]
  have hpl := hf.plans
  by_cases h : LR l
  · rw [decide_eq_true h]
    by_cases hl : o.length = l.Plans.length
    · rw [decide_eq_true (show ((o.length : Nat) : Int) = ((l.Plans.length : Nat) : Int) by omega)]
      simp only [Bool.not_true, cond_false]
      rcases rangeL_find (s0 := ()) (body := flood_may_c0 o) (xs := l.Plans) (by omega) (fun k p => !decide ((o[k]?.getD []).length = p.Ports.length)) (fun _ _ => 1) (fun k p hk => by
        have hkl := (List.getElem?_eq_some_iff.1 hk).1
        unfold flood_may_c0
        rw [gix_nat, List.getElem?_eq_getElem (show k < o.length by omega), Option.bind_some]
        have : (decide ((((o[k]'(by omega)).length : Nat) : Int) = ((p.Ports.length : Nat) : Int))) = decide ((o[k]'(by omega)).length = p.Ports.length) := decide_eq_decide.2 (by omega)
        rw [this]
        simp only [Option.getD_some]
        cases decide ((o[k]'(by omega)).length = p.Ports.length) <;> rfl) with ⟨k, p, hk, hp, _, h2⟩ | ⟨hp, h2⟩
      · rw [h2, aft_some_ret, if_neg]
        rintro ⟨_, hs⟩
        have hkl := (List.getElem?_eq_some_iff.1 hk).1
        have hok : o[k]? = some (o[k]'(by omega)) := List.getElem?_eq_getElem (by omega)
        have := hs.row k p _ hk hok
        rw [hok] at hp
        simp [this] at hp
      · have hS : Shp l o := ⟨hl, fun b p q h3 h4 => by
          have := hp b p h3
          rw [h4] at this
          simpa using this⟩
        rw [h2, aft_some_nxt, if_pos ⟨h, hS⟩]
        have hc : slices_ContainsFunc_int ss (fun x => flood_may_1 x l) = some (ss.any fun s => (bif (decide (s < 0)) then true else (decide (l.Segs ≤ s)))) :=
          (show slices_ContainsFunc_int ss (fun x => flood_may_1 x l) = conG (fun x => flood_may_1 x l) ss from rfl).trans (conG_eq (by omega) (fun x _ => rfl))
        rw [hc, Option.bind_some]
        by_cases ha : ∀ s ∈ ss, 0 ≤ s ∧ s < l.Segs
        · rw [if_pos ha, List.any_eq_false.2 fun s hs => by
            have := ha s hs
            rw [decide_eq_false (show ¬ s < 0 by omega), decide_eq_false (show ¬ l.Segs ≤ s by omega)]; simp]
          rfl
        · rw [if_neg ha]
          have : ss.any (fun s => (bif (decide (s < 0)) then true else (decide (l.Segs ≤ s)))) = true := by
            rw [List.any_eq_true]
            simp only [Classical.not_forall] at ha
            obtain ⟨s, hs, hn⟩ := ha
            refine ⟨s, hs, ?_⟩
            by_cases h1 : s < 0
            · rw [decide_eq_true h1]; rfl
            · rw [decide_eq_false h1, decide_eq_true (show l.Segs ≤ s by omega)]; rfl
          rw [this]; rfl
    · rw [decide_eq_false (show ¬ ((o.length : Nat) : Int) = ((l.Plans.length : Nat) : Int) by omega), if_neg (fun hh => hl hh.2.len)]; rfl
  · rw [decide_eq_false h, if_neg (fun hh => h hh.1)]; rfl
/-- How far all segments are. -/
def stepsT (l : LanT) (o : List (List Bool)) (a : Int) : List Int := (flood_steps l o a).getD []
theorem stepsT_eq {l : LanT} {o : List (List Bool)} (hf : FewL l) (h : LR l) (hs : Shp l o) {a : Int} (ha : 0 ≤ a ∧ a < l.Segs) : flood_steps l o a = some (stepsT l o a) ∧ DT (Jn (edO l o)) a l.Segs.toNat (stepsT l o a) := by
  obtain ⟨d, h1, h2⟩ := steps_eq l o hf h hs a ha
  have : stepsT l o a = d := by unfold stepsT; rw [h1]; rfl
  rw [this]; exact ⟨h1, h2⟩
theorem dt_reach {G : Int → Int → Prop} {a : Int} {N : Nat} {d : List Int} (h : DT G a N d) {s : Nat} (hs : s < N) : ∃ v, d[s]? = some v ∧ (0 ≤ v ↔ Eqv G a s) := by
  rcases h.2 s hs with ⟨h1, h2⟩ | ⟨n, h1, h2⟩
  · exact ⟨-1, h1, ⟨fun h => by omega, fun hr => by obtain ⟨n, hn⟩ := Wk.eqv.1 hr; exact absurd hn (h2 n)⟩⟩
  · exact ⟨n, h1, ⟨fun _ => Wk.eqv.2 ⟨n, h2.1⟩, fun _ => by omega⟩⟩
theorem reachRow {ρ : Type} {body : Nat → List Int → Option (Step ρ (List Int))} {E : List (List Int)} {a N : Int} {d : List Int} (hN : 0 ≤ N ∧ N ≤ 8) (h : DT (Jn E) a N.toNat d)
    (hb : ∀ (k : Nat) (v : Int) (s : List Int), (k : Int) < N → d[k]? = some v → s.length ≤ 100 → body k s = some (bif decide (0 ≤ v) then .nxt (s ++ [(k : Int)]) else .nxt s)) : rangeN body N [] = some (.nxt (partI E N a)) := by
  obtain ⟨t, h1, h2, h3, h4⟩ := rangeN_inv (body := body) (n := N) (s0 := []) (by omega) (fun k t => t.length ≤ k ∧ t.Pairwise (· < ·) ∧ ∀ x, x ∈ t ↔ (0 ≤ x ∧ x < (k : Int)) ∧ Rc E a x) ⟨by simp, by simp, fun x => by simp; omega⟩ (fun k t hk ⟨t1, t2, t3⟩ => by
    obtain ⟨v, hv, hr⟩ := dt_reach h (s := k) (by omega)
    rw [hb k v t hk hv (by omega)]
    by_cases h0 : 0 ≤ v
    · rw [decide_eq_true h0]
      refine ⟨_, rfl, by rw [List.length_append]; simp; omega, ?_, fun x => ?_⟩
      · rw [List.pairwise_append]
        refine ⟨t2, by simp, fun x hx y hy => ?_⟩
        obtain rfl := List.mem_singleton.1 hy
        have := ((t3 x).1 hx).1; omega
      · rw [List.mem_append, List.mem_singleton, t3]
        constructor
        · rintro (h1 | rfl)
          · exact ⟨⟨h1.1.1, by omega⟩, h1.2⟩
          · exact ⟨⟨by omega, by omega⟩, hr.1 h0⟩
        · rintro ⟨h1, h2⟩
          by_cases e : x = (k : Int)
          · exact .inr e
          · exact .inl ⟨⟨h1.1, by omega⟩, h2⟩
    · rw [decide_eq_false h0]
      refine ⟨_, rfl, by omega, t2, fun x => ?_⟩
      rw [t3]
      constructor
      · rintro ⟨h1, h2⟩; exact ⟨⟨h1.1, by omega⟩, h2⟩
      · rintro ⟨h1, h2⟩
        by_cases e : x = (k : Int)
        · subst e; exact absurd (hr.2 h2) h0
        · exact ⟨⟨h1.1, by omega⟩, h2⟩)
  rw [h1]
  have : t = partI E N a := partI_eq h3 fun x => by rw [h4]; rw [Int.toNat_of_nonneg hN.1]
  rw [this]
open Classical in
theorem Reach_eq (l : LanT) (o : List (List Bool)) (a : Int) (hf : FewL l) : flood_Reach l o a = some (if LR l ∧ Shp l o then (if 0 ≤ a ∧ a < l.Segs then (partI (edO l o) l.Segs a, 0) else ([], 3)) else ([], 1)) := by
  unfold flood_Reach
  rw [fmay_eq l o [a] hf (by simp), Option.bind_some]
  by_cases h : LR l ∧ Shp l o
  · rw [if_pos h, if_pos h]
    by_cases ha : 0 ≤ a ∧ a < l.Segs
    · have hseg := h.1.segs
      obtain ⟨e1, e2⟩ := stepsT_eq hf h.1 h.2 ha
      rw [if_pos (by simpa using ha), if_pos ha, e1, decide_eq_true rfl, Bool.not_true, cond_false, Option.bind_some,
        reachRow (E := edO l o) (a := a) (d := stepsT l o a) (by omega) e2 (fun k v s hk hv hs => by
          unfold flood_Reach_c0
          have hl := e2.1
          rw [grd_true ⟨by omega, by omega⟩, Int.toNat_natCast]
          unfold gixN
          rw [hv, Option.bind_some, grd_true (fits_of (by rw [List.length_append]; simp; omega) (by decide))]
          cases decide (0 ≤ v) <;> rfl)]
      rfl
    · rw [if_neg (by simpa using ha), if_neg ha]; rfl
  · rw [if_neg h, if_neg h]; rfl
theorem has_eq (l : List Int) (a : Int) (hl : l.length ≤ 1000000) : ref06_Has l a = some (decide (a ∈ l)) := by
  unfold ref06_Has
  rcases rangeL_find (s0 := ()) (body := ref06_Has_c0 a) hl (fun _ x => decide (x = a)) (fun _ _ => true) (fun k x hx => by
    unfold ref06_Has_c0; cases decide (x = a) <;> rfl) with ⟨k, x, hx, hp, _, h⟩ | ⟨hp, h⟩
  · rw [h, aft_some_ret, decide_eq_true (of_decide_eq_true hp ▸ List.mem_of_getElem? hx)]
  · rw [h, aft_some_nxt, decide_eq_false (fun hx => by obtain ⟨k, hk⟩ := List.getElem?_of_mem hx; exact absurd rfl (of_decide_eq_false (hp k a hk)))]
theorem same_eq (x y : List Int) (hl : x.length ≤ 1000000) : ref06_Same x y = some (decide (x = y)) := by
  unfold ref06_Same
  by_cases h : x.length = y.length
  · rw [decide_eq_true (show ((x.length : Nat) : Int) = ((y.length : Nat) : Int) by omega), Bool.not_true, cond_false]
    rcases rangeL_find (s0 := ()) (body := ref06_Same_c0 y) hl (fun k a => !decide (y[k]? = some a)) (fun _ _ => false) (fun k a hk => by
      have hlt : k < y.length := by have := (List.getElem?_eq_some_iff.1 hk).1; omega
      unfold ref06_Same_c0
      rw [gix_lt hlt, Option.bind_some, List.getElem?_eq_getElem hlt]
      by_cases e : a = y[k]
      · subst e; simp
      · have e' : ¬ y[k] = a := fun h => e h.symm
        simp [e, e']) with ⟨k, a, hx, hp, _, h2⟩ | ⟨hp, h2⟩
    · rw [h2, aft_some_ret]
      have : ¬ x = y := fun e => by subst e; rw [hx] at hp; simp at hp
      rw [decide_eq_false this]
    · rw [h2, aft_some_nxt]
      have : x = y := List.ext_getElem? fun k => by
        by_cases hk : k < x.length
        · have := hp k x[k] (List.getElem?_eq_getElem hk)
          simp only [Bool.not_eq_false', decide_eq_true_eq] at this
          rw [List.getElem?_eq_getElem hk, this]
        · rw [List.getElem?_eq_none (by omega), List.getElem?_eq_none (by omega)]
      rw [decide_eq_true this]
  · have : ¬ x = y := fun e => h (by rw [e])
    rw [decide_eq_false (show ¬ ((x.length : Nat) : Int) = ((y.length : Nat) : Int) by omega), decide_eq_false this]; rfl
theorem partI_len (E : List (List Int)) (N s : Int) : (partI E N s).length ≤ N.toNat := by
  have := List.length_filter_le (fun t => @decide (Rc E s t) (Classical.propDecidable _)) (upI N)
  have hu : (upI N).length = N.toNat := by simp [upI]
  show (List.filter _ _).length ≤ _
  omega
end
section
theorem dt_dv {G : Int → Int → Prop} {a : Int} {N : Nat} {d : List Int} (h : DT G a N d) {s : Int} (h0 : 0 ≤ s) (hs : s < N) : (dv d s = -1 ∧ ∀ n, ¬ Wk G a n s) ∨ ∃ n : Nat, dv d s = n ∧ Dist G a n s := by
  have := h.2 s.toNat (by omega)
  rw [Int.toNat_of_nonneg h0, dv_some (n := 0) h0 (by rw [h.1]; omega)] at this
  rcases this with ⟨h1, h2⟩ | ⟨n, h1, h2⟩
  · exact .inl ⟨Option.some.inj h1, h2⟩
  · exact .inr ⟨n, Option.some.inj h1, h2⟩
/-- A path: as long as there are steps, each one farther. -/
structure PathOk (d : List Int) (a b : Int) (N : Int) (n : Nat) (r : List Int) : Prop where
  len : r.length = n + 1
  first : r[0]? = some a
  last : r[n]? = some b
  at_ : ∀ (k : Nat) (x : Int), r[k]? = some x → (0 ≤ x ∧ x < N) ∧ dv d x = (k : Int)
end
section
theorem twiceLoop {α : Type} {body : Nat → α → Unit → Option (Step Bool Unit)} {xs : List α} (hl : xs.length ≤ 1000) (key : α → Int)
    (hb : ∀ k x, xs[k]? = some x → body k x () = some (bif (xs.take k).any (fun y => decide (key x = key y)) then .ret true else .nxt ())) :
    ((xs.map key).Nodup ∧ rangeL body xs () = some (.nxt ())) ∨ (¬ (xs.map key).Nodup ∧ rangeL body xs () = some (.ret true)) := by
  rcases rangeL_find (s0 := ()) (body := body) (by omega) (fun k x => (xs.take k).any (fun y => decide (key x = key y))) (fun _ _ => true) hb with ⟨k, x, hx, hp, _, h⟩ | ⟨hp, h⟩
  · refine .inr ⟨fun hn => ?_, h⟩
    obtain ⟨y, hy, e⟩ := List.any_eq_true.1 hp
    have := (List.take_sublist (k + 1) xs).map key |>.nodup hn
    rw [List.take_add_one, hx, List.map_append, List.nodup_append] at this
    exact this.2.2 _ (List.mem_map_of_mem hy) (key x) (by simp) (of_decide_eq_true e).symm
  · refine .inl ⟨?_, h⟩
    rw [List.nodup_iff_pairwise_ne, List.pairwise_map, List.pairwise_iff_getElem]
    intro i j hi hj hij e
    have := hp j xs[j] (List.getElem?_eq_getElem hj)
    rw [List.any_eq_false] at this
    exact this xs[i] (List.mem_of_getElem? (i := i) (by rw [List.getElem?_take, if_pos hij, List.getElem?_eq_getElem hi])) (decide_eq_true e.symm)
theorem twiceIn {α : Type} {body : Int → Option (Step (Step Bool Unit) Int)} {xs : List α} {k : Nat} {x : α} (hl : xs.length ≤ 1000) (hk : k < xs.length) (key : α → Int)
    (hb : ∀ j : Nat, body (j : Int) = (bif decide ((j : Int) < (k : Int)) then (gix xs (j : Int)).bind fun y => (bif decide (key x = key y) then some (.ret (.ret true)) else some (.nxt (IntKind.i64.wrap ((j : Int) + 1)))) else some (.brk (j : Int)))) :
    (aft (loopF 1000000 body 0) fun _ => some (.nxt ())) = some (bif (xs.take k).any (fun y => decide (key x = key y)) then Step.ret true else .nxt ()) := by
  obtain ⟨o, h1, h2⟩ := loopF_rec (body := body) (fun s => k - s.toNat) (fun s => ∃ j : Nat, s = (j : Int) ∧ j ≤ k ∧ ∀ y ∈ xs.take j, key x ≠ key y)
    (fun r => r = .ret true ∧ ∃ y ∈ xs.take k, key x = key y) (fun s => ∀ y ∈ xs.take k, key x ≠ key y) (fun s ⟨j, hs, hj, hy⟩ => by
      subst hs
      rw [hb j]
      by_cases hjk : j < k
      · have hjl : j < xs.length := by omega
        rw [decide_eq_true (show ((j : Nat) : Int) < (k : Int) by omega), cond_true, gix_lt hjl, Option.bind_some]
        by_cases e : key x = key xs[j]
        · rw [decide_eq_true e]
          exact ⟨_, rfl, rfl, xs[j], List.mem_of_getElem? (i := j) (by rw [List.getElem?_take, if_pos hjk, List.getElem?_eq_getElem hjl]), e⟩
        · rw [decide_eq_false e, w64_succ (by omega) (by omega)]
          refine ⟨_, rfl, ⟨j + 1, by omega, by omega, fun y hy' => ?_⟩, by omega⟩
          rw [List.take_add_one, List.getElem?_eq_getElem hjl] at hy'
          rcases List.mem_append.1 hy' with hy' | hy'
          · exact hy y hy'
          · simp at hy'; subst hy'; exact e
      · obtain rfl : j = k := by omega
        rw [decide_eq_false (by omega)]
        exact ⟨_, rfl, hy⟩) 1000000 0 ⟨0, rfl, Nat.zero_le _, by simp⟩ (by omega)
  cases o with
  | ret r =>
    obtain ⟨rfl, y, hy, e⟩ := h2
    rw [h1, aft_some_ret, show (xs.take k).any (fun y => decide (key x = key y)) = true from List.any_eq_true.2 ⟨y, hy, decide_eq_true e⟩]; rfl
  | brk s => exact h2.elim
  | nxt s =>
    rw [h1, aft_some_nxt, show (xs.take k).any (fun y => decide (key x = key y)) = false from List.any_eq_false.2 fun y hy => by simpa using h2 y hy]; rfl
theorem twice_eq (l : LanT) (hf : FewL l) : ref15_twice l = some (!decide ((l.Plans.map (·.ID)).Nodup ∧ (l.Hosts.map (·.Mac)).Nodup)) := by
  unfold ref15_twice
  have hp := hf.plans
  have hh := hf.hosts
  rcases twiceLoop (body := ref15_twice_c0 l) (xs := l.Plans) (by omega) (·.ID) (fun k x hx => by
    unfold ref15_twice_c0
    exact twiceIn (xs := l.Plans) (by omega) (List.getElem?_eq_some_iff.1 hx).1 (fun p => p.ID) fun j => rfl) with ⟨h1, h2⟩ | ⟨h1, h2⟩
  · rw [h2, aft_some_nxt]
    rcases twiceLoop (body := ref15_twice_c2 l) (xs := l.Hosts) (by omega) (·.Mac) (fun k x hx => by
      unfold ref15_twice_c2
      exact twiceIn (xs := l.Hosts) (by omega) (List.getElem?_eq_some_iff.1 hx).1 (fun p => p.Mac) fun j => rfl) with ⟨h3, h4⟩ | ⟨h3, h4⟩
    · rw [h4, aft_some_nxt, decide_eq_true ⟨h1, h3⟩]; rfl
    · rw [h4, aft_some_ret, decide_eq_false (fun h => h3 h.2)]; rfl
  · rw [h2, aft_some_ret, decide_eq_false (fun h => h1 h.1)]; rfl
theorem refMac_eq (a : Int) : ref08_Mac a = some (decide (Uni a)) := by
  unfold ref08_Mac ref01_Right ref01_Class
  by_cases hr : 0 ≤ a ∧ a < 281474976710656
  · rw [decide_eq_true hr.1, decide_eq_true hr.2, Int.tdiv_eq_ediv_of_nonneg hr.1, Int.tdiv_eq_ediv_of_nonneg hr.1, w64_in (by omega) (by omega), w64_in (by omega) (by omega), Int.tmod_eq_emod_of_nonneg (by omega)]
    simp only [cond_true, Option.bind_some]
    by_cases h1 : a / 16 = 103282638848
    · have : ¬ Uni a := fun hu => hu.2.2.1 h1
      simp [h1, this, gd]
    · by_cases h2 : a / 1099511627776 % 2 = 1
      · have : ¬ Uni a := fun hu => by have := hu.2.2.2; omega
        simp [h1, h2, this, gd]
      · have : Uni a := ⟨hr.1, hr.2, h1, by omega⟩
        simp [h1, h2, this, gd]
  · have : ¬ Uni a := fun hu => hr ⟨hu.1, hu.2.1⟩
    by_cases h1 : 0 ≤ a
    · have h2 : ¬ a < 281474976710656 := fun h => hr ⟨h1, h⟩
      simp [h1, h2, this, gd]
    · simp [h1, this, gd]
theorem refPlan_eq (p : PlanT) (n : Int) (hp : p.Ports.length ≤ 1000000) : ref15_plan p n = some (decide (PlanOk n p)) := by
  unfold ref15_plan
  rcases rangeL_find (s0 := ()) (body := ref15_plan_c0 n) hp (fun _ x => !decide (LinkOk n x)) (fun _ _ => false) (fun k x hx => by
    unfold ref15_plan_c0
    have e : (bif (bif (bif (decide (x.Seg < 0)) then true else (decide (n ≤ x.Seg))) then true else (decide (x.Cost < 1))) then true else (decide (1000 < x.Cost))) = !decide (LinkOk n x) := by
      rw [Bool.eq_iff_iff, Bool.not_eq_true', decide_eq_false_iff_not]
      unfold LinkOk
      simp only [Bool.cond_eq_ite, Bool.if_true_left, Bool.or_eq_true, decide_eq_true_eq]
      omega
    rw [e]; cases decide (LinkOk n x) <;> rfl) with ⟨k, x, hx, hq, _, h⟩ | ⟨hq, h⟩
  · rw [h, aft_some_ret, decide_eq_false (fun hh => by
      have := hh.2.2 x (List.mem_of_getElem? hx)
      rw [decide_eq_true this] at hq; cases hq)]
  · rw [h, aft_some_nxt]
    congr 1
    rw [Bool.eq_iff_iff]
    have hall : ∀ x ∈ p.Ports, LinkOk n x := fun x hx => by
      obtain ⟨k, hk⟩ := List.getElem?_of_mem hx
      have := hq k x hk
      simpa using this
    rw [decide_eq_true_eq (p := PlanOk n p)]
    unfold PlanOk
    simp only [Bool.cond_eq_ite, Bool.if_false_right, Bool.and_eq_true, decide_eq_true_eq]
    constructor
    · intro h; exact ⟨⟨h.1.1.1, h.1.1.2⟩, ⟨by omega, by omega⟩, hall⟩
    · intro h; exact ⟨⟨⟨h.1.1, h.1.2⟩, by omega⟩, by omega⟩
theorem refRight_eq (l : LanT) (hf : FewL l) : ref15_Right l = some (decide (LR l)) := by
  unfold ref15_Right
  rw [twice_eq l hf, gd_some, Option.bind_some]
  by_cases h : (1 ≤ l.Segs ∧ l.Segs ≤ 8) ∧ l.Plans.length ≤ 6 ∧ l.Hosts.length ≤ 8
  · have e : (bif (bif (bif (decide (l.Segs < 1)) then true else (decide (8 < l.Segs))) then true else (decide (6 < ((l.Plans.length : Nat) : Int)))) then true else (decide (8 < ((l.Hosts.length : Nat) : Int)))) = false := by
      rw [decide_eq_false (show ¬ l.Segs < 1 by omega), decide_eq_false (show ¬ 8 < l.Segs by omega), decide_eq_false (show ¬ 6 < ((l.Plans.length : Nat) : Int) by omega), decide_eq_false (show ¬ 8 < ((l.Hosts.length : Nat) : Int) by omega)]; rfl
    rw [e]
    simp only [Bool.not_false, cond_true, cond_false]
    by_cases h2 : (l.Plans.map (·.ID)).Nodup ∧ (l.Hosts.map (·.Mac)).Nodup
    · rw [decide_eq_true h2, Bool.not_true, cond_false]
      rcases rangeL_find (s0 := ()) (body := ref15_Right_c0 l) (xs := l.Plans) (by omega) (fun _ p => !decide (PlanOk l.Segs p)) (fun _ _ => false) (fun k p hp => by
        unfold ref15_Right_c0
        rw [refPlan_eq p _ (by have := hf.ports p (List.mem_of_getElem? hp); omega), Option.bind_some]; cases decide (PlanOk l.Segs p) <;> rfl) with ⟨k, p, hp, hq, _, h3⟩ | ⟨hq, h3⟩
      · rw [h3, aft_some_ret, decide_eq_false (fun hh => by
          have := hh.plan p (List.mem_of_getElem? hp)
          rw [decide_eq_true this] at hq; cases hq)]
      · rw [h3, aft_some_nxt]
        have hall : ∀ p ∈ l.Plans, PlanOk l.Segs p := fun p hp => by
          obtain ⟨k, hk⟩ := List.getElem?_of_mem hp
          simpa using hq k p hk
        rcases rangeL_find (s0 := ()) (body := ref15_Right_c1 l) (xs := l.Hosts) (by omega) (fun _ x => !decide (HostOk l.Segs x)) (fun _ _ => false) (fun k x hx => by
          unfold ref15_Right_c1
          rw [refMac_eq, Option.bind_some]
          have e : (bif (bif (!decide (Uni x.Mac)) then true else (decide (x.Seg < 0))) then true else (decide (l.Segs ≤ x.Seg))) = !decide (HostOk l.Segs x) := by
            rw [Bool.eq_iff_iff, Bool.not_eq_true', decide_eq_false_iff_not]
            unfold HostOk
            simp only [Bool.cond_eq_ite, Bool.if_true_left, Bool.or_eq_true, decide_eq_true_eq, Bool.not_eq_true', decide_eq_false_iff_not]
            by_cases hu : Uni x.Mac
            · simp only [hu, not_true_eq_false, false_or, true_and]; omega
            · simp only [hu, not_false_eq_true, true_or, false_and]
          rw [e]; cases decide (HostOk l.Segs x) <;> rfl) with ⟨k, x, hx, hq', _, h4⟩ | ⟨hq', h4⟩
        · rw [h4, aft_some_ret, decide_eq_false (fun hh => by
            have := hh.host x (List.mem_of_getElem? hx)
            rw [decide_eq_true this] at hq'; cases hq')]
        · have hall' : ∀ x ∈ l.Hosts, HostOk l.Segs x := fun x hx => by
            obtain ⟨k, hk⟩ := List.getElem?_of_mem hx
            simpa using hq' k x hk
          rw [h4, aft_some_nxt, decide_eq_true ((LR.iff l).2 ⟨h, ⟨h2.1, hall⟩, h2.2, hall'⟩)]
    · rw [decide_eq_false h2, decide_eq_false (fun hh => h2 ⟨hh.ids, hh.macs⟩)]; rfl
  · have e : (bif (bif (bif (decide (l.Segs < 1)) then true else (decide (8 < l.Segs))) then true else (decide (6 < ((l.Plans.length : Nat) : Int)))) then true else (decide (8 < ((l.Hosts.length : Nat) : Int)))) = true := by
      simp only [Bool.cond_eq_ite, Bool.if_true_left, Bool.or_eq_true, decide_eq_true_eq]
      omega
    rw [e, decide_eq_false (fun hh => h ((LR.iff l).1 hh).1)]; rfl
open Classical in
theorem refMay_eq (l : LanT) (o : List (List Bool)) (hf : FewL l) : ref17_May l o = some (decide (LR l ∧ Shp l o)) := by
  unfold ref17_May
  rw [refRight_eq l hf, Option.bind_some]
  have hpl := hf.plans
  by_cases h : LR l
  · rw [decide_eq_true h]
    by_cases hl : o.length = l.Plans.length
    · rw [decide_eq_true (show ((o.length : Nat) : Int) = ((l.Plans.length : Nat) : Int) by omega)]
      simp only [Bool.not_true, cond_false]
      rcases rangeL_find (s0 := ()) (body := ref17_May_c0 o) (xs := l.Plans) (by omega) (fun k p => !decide ((o[k]?.getD []).length = p.Ports.length)) (fun _ _ => false) (fun k p hk => by
        have hkl := (List.getElem?_eq_some_iff.1 hk).1
        unfold ref17_May_c0
        rw [gix_nat, List.getElem?_eq_getElem (show k < o.length by omega), Option.bind_some]
        have : (decide ((((o[k]'(by omega)).length : Nat) : Int) = ((p.Ports.length : Nat) : Int))) = decide ((o[k]'(by omega)).length = p.Ports.length) := decide_eq_decide.2 (by omega)
        rw [this]
        simp only [Option.getD_some]
        cases decide ((o[k]'(by omega)).length = p.Ports.length) <;> rfl) with ⟨k, p, hk, hp, _, h2⟩ | ⟨hp, h2⟩
      · rw [h2, aft_some_ret, decide_eq_false]
        rintro ⟨_, hs⟩
        have hkl := (List.getElem?_eq_some_iff.1 hk).1
        have hok : o[k]? = some (o[k]'(by omega)) := List.getElem?_eq_getElem (by omega)
        have := hs.row k p _ hk hok
        rw [hok] at hp
        simp [this] at hp
      · have hS : Shp l o := ⟨hl, fun b p q h3 h4 => by
          have := hp b p h3
          rw [h4] at this
          simpa using this⟩
        rw [h2, aft_some_nxt, decide_eq_true ⟨h, hS⟩]
    · rw [decide_eq_false (show ¬ ((o.length : Nat) : Int) = ((l.Plans.length : Nat) : Int) by omega), show decide (LR l ∧ Shp l o) = false from decide_eq_false (fun hh => hl hh.2.len)]; rfl
  · rw [decide_eq_false h, show decide (LR l ∧ Shp l o) = false from decide_eq_false (fun hh => h hh.1)]; rfl
theorem leads_in {o : List (List Bool)} {q : List Bool} {b k j : Nat} {x y : LinkT} {s t : Int} {u v : Bool} (hq : o[b]? = some q) (hk : q[k]? = some u) (hj : q[j]? = some v) :
    ref17_leads_c1 o (b : Int) s t k x j y () = some (bif ((!decide (k = j)) && x.Up && y.Up && u && v && decide (x.Seg = s) && decide (y.Seg = t)) then .ret (.ret true) else .nxt ()) := by
  unfold ref17_leads_c1
  rw [show decide ((k : Int) = (j : Int)) = decide (k = j) from decide_eq_decide.2 (by omega)]
  cases decide (k = j) <;> cases x.Up <;> cases y.Up <;> cases u <;> cases v <;> cases decide (x.Seg = s) <;> cases decide (y.Seg = t) <;> simp [gd_true, gd_false, gix_nat, hq, hk, hj]
open Classical in
theorem leads_eq {l : LanT} {o : List (List Bool)} {b : Nat} {p : PlanT} {q : List Bool} {s t : Int} (hp : l.Plans[b]? = some p) (hq : o[b]? = some q) (hl : q.length = p.Ports.length) (hn : p.Ports.length ≤ 1000000) (hst : s ≠ t) :
    ref17_leads l o (b : Int) s t = some (decide (s ∈ opn p q ∧ t ∈ opn p q)) := by
  unfold ref17_leads
  rw [gix_nat, hp, Option.bind_some]
  have hin : ∀ (k : Nat) (x : LinkT), p.Ports[k]? = some x → (∃ (j : Nat) (y : LinkT), p.Ports[j]? = some y ∧ q[k]? = some true ∧ q[j]? = some true ∧ x.Up = true ∧ y.Up = true ∧ x.Seg = s ∧ y.Seg = t ∧ ref17_leads_c0 l o (b : Int) s t k x () = some (.ret true)) ∨
      ((∀ (j : Nat) (y : LinkT), p.Ports[j]? = some y → ¬ (q[k]? = some true ∧ q[j]? = some true ∧ x.Up = true ∧ y.Up = true ∧ x.Seg = s ∧ y.Seg = t)) ∧ ref17_leads_c0 l o (b : Int) s t k x () = some (.nxt ())) := fun k x hx => by
    have hkl := (List.getElem?_eq_some_iff.1 hx).1
    have hqk : q[k]? = some (q[k]'(by omega)) := List.getElem?_eq_getElem _
    unfold ref17_leads_c0
    rw [gix_nat, hp, Option.bind_some]
    rcases rangeL_find (s0 := ()) (body := ref17_leads_c1 o (b : Int) s t k x) (xs := p.Ports) hn
      (fun j y => (!decide (k = j)) && x.Up && y.Up && (q[k]?.getD false) && (q[j]?.getD false) && decide (x.Seg = s) && decide (y.Seg = t)) (fun _ _ => .ret true) (fun j y hy => by
        have hjl := (List.getElem?_eq_some_iff.1 hy).1
        have hqj : q[j]? = some (q[j]'(by omega)) := List.getElem?_eq_getElem _
        rw [leads_in hq hqk hqj, hqk, hqj]; rfl) with ⟨j, y, hy, hc, _, h2⟩ | ⟨hc, h2⟩
    · refine .inl ⟨j, y, hy, ?_⟩
      have hjl := (List.getElem?_eq_some_iff.1 hy).1
      have hqj : q[j]? = some (q[j]'(by omega)) := List.getElem?_eq_getElem _
      rw [hqk, hqj] at hc ⊢
      simp only [Bool.and_eq_true, decide_eq_true_eq, Option.getD_some] at hc
      obtain ⟨⟨⟨⟨⟨⟨_, c1⟩, c2⟩, c3⟩, c4⟩, c5⟩, c6⟩ := hc
      refine ⟨by rw [c3], by rw [c4], c1, c2, c5, c6, ?_⟩
      rw [h2]; rfl
    · refine .inr ⟨fun j y hy ⟨c3, c4, c1, c2, c5, c6⟩ => ?_, by rw [h2]; rfl⟩
      have := hc j y hy
      have hkj : k ≠ j := fun e => by
        subst e
        rw [hx] at hy; cases hy
        exact hst (c5.symm.trans c6)
      rw [c3, c4, c1, c2, decide_eq_true c5, decide_eq_true c6, decide_eq_false hkj] at this
      simp at this
  rcases rangeL_find (s0 := ()) (body := ref17_leads_c0 l o (b : Int) s t) (xs := p.Ports) hn
    (fun k x => decide (ref17_leads_c0 l o (b : Int) s t k x () = some (.ret true))) (fun _ _ => true) (fun k x hx => by
      rcases hin k x hx with ⟨j, y, _, _, _, _, _, _, _, h⟩ | ⟨_, h⟩
      · rw [h, decide_eq_true rfl]; rfl
      · rw [h, decide_eq_false (by simp)]; rfl) with ⟨k, x, hx, hc, _, h2⟩ | ⟨hc, h2⟩
  · rw [h2, aft_some_ret, decide_eq_true]
    rcases hin k x hx with ⟨j, y, hy, c3, c4, c1, c2, c5, c6, _⟩ | ⟨_, h⟩
    · exact ⟨mem_opn.2 ⟨k, x, hx, c3, c1, c5⟩, mem_opn.2 ⟨j, y, hy, c4, c2, c6⟩⟩
    · rw [h] at hc; simp at hc
  · rw [h2, aft_some_nxt, decide_eq_false]
    rintro ⟨h3, h4⟩
    obtain ⟨k, x, hx, c3, c1, c5⟩ := mem_opn.1 h3
    obtain ⟨j, y, hy, c4, c2, c6⟩ := mem_opn.1 h4
    rcases hin k x hx with ⟨_, _, _, _, _, _, _, _, _, h⟩ | ⟨h, _⟩
    · have := hc k x hx
      rw [h] at this; simp at this
    · exact h j y hy ⟨c3, c4, c1, c2, c5, c6⟩
open Classical in
theorem Next_eq {l : LanT} {o : List (List Bool)} (hf : FewL l) (hs : Shp l o) {s t : Int} (hst : s ≠ t) : ref17_Next l o s t = some (decide (Jn (edO l o) s t)) := by
  unfold ref17_Next
  have hpl := hf.plans
  rcases rangeL_find (s0 := ()) (body := ref17_Next_c0 l o s t) (xs := l.Plans) (by omega) (fun k p => decide (s ∈ opn p (o[k]?.getD []) ∧ t ∈ opn p (o[k]?.getD []))) (fun _ _ => true) (fun k p hk => by
    have hkl := (List.getElem?_eq_some_iff.1 hk).1
    have hok : o[k]? = some (o[k]'(by rw [hs.len]; exact hkl)) := List.getElem?_eq_getElem _
    have hpo := hf.ports p (List.mem_of_getElem? hk)
    unfold ref17_Next_c0
    rw [leads_eq hk hok (hs.row k p _ hk hok) (by omega) hst, Option.bind_some, hok]
    simp only [Option.getD_some]
    cases decide (s ∈ opn p (o[k]'(by rw [hs.len]; exact hkl)) ∧ t ∈ opn p (o[k]'(by rw [hs.len]; exact hkl))) <;> rfl) with ⟨k, p, hk, hc, _, h2⟩ | ⟨hc, h2⟩
  · rw [h2, aft_some_ret, decide_eq_true]
    have hkl := (List.getElem?_eq_some_iff.1 hk).1
    have hok : o[k]? = some (o[k]'(by rw [hs.len]; exact hkl)) := List.getElem?_eq_getElem _
    rw [hok] at hc
    have := of_decide_eq_true hc
    exact jn_edO.2 ⟨k, p, _, hk, hok, this.1, this.2⟩
  · rw [h2, aft_some_nxt, decide_eq_false]
    intro hj
    obtain ⟨k, p, q, h3, h4, h5, h6⟩ := jn_edO.1 hj
    have := hc k p h3
    rw [h4] at this
    exact (of_decide_eq_false this) ⟨h5, h6⟩
/-- A round, of which the pairs P are done. -/
def Jv (G : Int → Int → Prop) (P : Nat → Nat → Prop) (n : Int) (d e : List Int) : Prop :=
  e.length = d.length ∧ ∀ (t : Nat) (v : Int), d[t]? = some v →
    ((v < 0 ∧ ∃ s : Nat, P s t ∧ d[s]? = some (n - 1) ∧ G s t) → e[t]? = some n) ∧ (¬ (v < 0 ∧ ∃ s : Nat, P s t ∧ d[s]? = some (n - 1) ∧ G s t) → e[t]? = some v)
theorem Jv.congr {G : Int → Int → Prop} {P P' : Nat → Nat → Prop} {n : Int} {d e : List Int} (hP : ∀ s t, t < d.length → (P s t ↔ P' s t)) (h : Jv G P n d e) : Jv G P' n d e := by
  refine ⟨h.1, fun t v hv => ?_⟩
  have hlt := (List.getElem?_eq_some_iff.1 hv).1
  have : (∃ s : Nat, P s t ∧ d[s]? = some (n - 1) ∧ G s t) ↔ (∃ s : Nat, P' s t ∧ d[s]? = some (n - 1) ∧ G s t) := exists_congr fun s => and_congr (hP s t hlt) Iff.rfl
  rw [← this]
  exact h.2 t v hv
theorem Jv.step {G : Int → Int → Prop} {P P' : Nat → Nat → Prop} {n : Int} {d e : List Int} (hn : 1 ≤ n) (h : Jv G P n d e) {s t : Nat} {x y : Int} (hx : e[s]? = some x) (hy : e[t]? = some y)
    (hP : ∀ s' t', P' s' t' ↔ P s' t' ∨ (s' = s ∧ t' = t)) :
    ((y < 0 ∧ x = n - 1 ∧ G s t) → Jv G P' n d (e.set t n)) ∧ (¬ (y < 0 ∧ x = n - 1 ∧ G s t) → Jv G P' n d e) := by
  have hsl := (List.getElem?_eq_some_iff.1 hx).1
  have htl := (List.getElem?_eq_some_iff.1 hy).1
  obtain ⟨p, hp⟩ : ∃ p, d[s]? = some p := ⟨_, List.getElem?_eq_getElem (by rw [← h.1]; exact hsl)⟩
  obtain ⟨q, hq⟩ : ∃ q, d[t]? = some q := ⟨_, List.getElem?_eq_getElem (by rw [← h.1]; exact htl)⟩
  have ex : x = n - 1 ↔ p = n - 1 := by
    by_cases c : (p < 0 ∧ ∃ s' : Nat, P s' s ∧ d[s']? = some (n - 1) ∧ G s' s)
    · have := (h.2 s p hp).1 c
      rw [hx] at this
      have := Option.some.inj this
      have := c.1
      omega
    · have := (h.2 s p hp).2 c
      rw [hx] at this
      rw [Option.some.inj this]
  constructor
  · rintro ⟨y0, x1, g⟩
    refine ⟨by rw [List.length_set, h.1], fun t' v hv => ?_⟩
    by_cases e' : t' = t
    · subst e'
      rw [hq] at hv
      obtain rfl := Option.some.inj hv
      have hc : ¬ (q < 0 ∧ ∃ s' : Nat, P s' t' ∧ d[s']? = some (n - 1) ∧ G s' t') := fun c => by
        have := (h.2 t' q hq).1 c
        rw [hy] at this
        have := Option.some.inj this
        omega
      have hyq : y = q := by
        have := (h.2 t' q hq).2 hc
        rw [hy] at this
        exact Option.some.inj this
      exact ⟨fun _ => List.getElem?_set_self htl, fun hn' => absurd ⟨by omega, s, (hP s t').2 (.inr ⟨rfl, rfl⟩), by rw [hp, ex.1 x1], g⟩ hn'⟩
    · have : (∃ s' : Nat, P' s' t' ∧ d[s']? = some (n - 1) ∧ G s' t') ↔ (∃ s' : Nat, P s' t' ∧ d[s']? = some (n - 1) ∧ G s' t') := exists_congr fun s' => and_congr ((hP s' t').trans ⟨fun k => k.resolve_right fun k => e' k.2, .inl⟩) Iff.rfl
      rw [this, List.getElem?_set_ne (Ne.symm e')]
      exact h.2 t' v hv
  · intro hno
    refine ⟨h.1, fun t' v hv => ?_⟩
    by_cases e' : t' = t
    · subst e'
      rw [hq] at hv
      obtain rfl := Option.some.inj hv
      by_cases c : (q < 0 ∧ ∃ s' : Nat, P s' t' ∧ d[s']? = some (n - 1) ∧ G s' t')
      · refine ⟨fun _ => (h.2 t' q hq).1 c, fun hn' => absurd ?_ hn'⟩
        obtain ⟨c0, s', c1, c2⟩ := c
        exact ⟨c0, s', (hP s' t').2 (.inl c1), c2⟩
      · have hyq : y = q := by
          have := (h.2 t' q hq).2 c
          rw [hy] at this
          exact Option.some.inj this
        refine ⟨?_, fun _ => (h.2 t' q hq).2 c⟩
        rintro ⟨q0, s', c1, c2, c3⟩
        rcases (hP s' t').1 c1 with h1 | ⟨rfl, _⟩
        · exact absurd ⟨q0, s', h1, c2, c3⟩ c
        · rw [hp] at c2
          exact absurd ⟨by omega, ex.2 (Option.some.inj c2), c3⟩ hno
    · have : (∃ s' : Nat, P' s' t' ∧ d[s']? = some (n - 1) ∧ G s' t') ↔ (∃ s' : Nat, P s' t' ∧ d[s']? = some (n - 1) ∧ G s' t') := exists_congr fun s' => and_congr ((hP s' t').trans ⟨fun k => k.resolve_right fun k => e' k.2, .inl⟩) Iff.rfl
      rw [this]
      exact h.2 t' v hv
open Classical in
theorem round_eq {l : LanT} {o : List (List Bool)} (hf : FewL l) (hs : Shp l o) {n : Nat} {d : List Int} (hn : 1 ≤ n ∧ n ≤ 8) (hd : d.length ≤ 8) :
    ∃ e, rangeN (ref17_Steps_c2 l o ((n : Int), d)) ((d.length : Nat) : Int) d = some (.nxt e) ∧ Rd (Jn (edO l o)) n d e := by
  obtain ⟨e, h1, h2⟩ := rangeN_inv (body := ref17_Steps_c2 l o ((n : Int), d)) (n := ((d.length : Nat) : Int)) (s0 := d) (by omega) (fun k e => Jv (Jn (edO l o)) (fun s _ => s < k) (n : Int) d e)
    ⟨rfl, fun t v hv => ⟨fun ⟨_, s, hs, _⟩ => absurd hs (Nat.not_lt_zero _), fun _ => hv⟩⟩ (fun k e hk he => by
      unfold ref17_Steps_c2
      have hel := he.1
      obtain ⟨e', h3, h4⟩ := rangeN_inv (body := ref17_Steps_c3 l o ((n : Int), d) k) (n := ((e.length : Nat) : Int)) (s0 := e) (by omega) (fun j e' => Jv (Jn (edO l o)) (fun s t => s < k ∨ (s = k ∧ t < j)) (n : Int) d e')
        (he.congr fun s t _ => by omega) (fun j e' hj he' => by
          have hel' := he'.1
          obtain ⟨y, hy⟩ : ∃ y, e'[j]? = some y := ⟨_, List.getElem?_eq_getElem (by omega)⟩
          obtain ⟨x, hx⟩ : ∃ x, e'[k]? = some x := ⟨_, List.getElem?_eq_getElem (by omega)⟩
          obtain ⟨s1, s2⟩ := he'.step (P' := fun s t => s < k ∨ (s = k ∧ t < j + 1)) (by omega) hx hy (fun s' t' => by omega)
          unfold ref17_Steps_c3
          rw [grd_true ⟨by omega, by omega⟩]
          unfold gixN
          rw [Int.toNat_natCast, Int.toNat_natCast, hy, Option.bind_some, grd_true (fun _ => ⟨by omega, by omega⟩), hx, Option.bind_some]
          dsimp only
          rw [w64_in (by omega) (by omega)]
          by_cases c : y < 0 ∧ x = (n : Int) - 1
          · have hkj : ((k : Nat) : Int) ≠ ((j : Nat) : Int) := fun h => by
              have : k = j := by omega
              subst this
              rw [hx] at hy
              have := Option.some.inj hy
              omega
            simp only [decide_eq_true c.1, decide_eq_true c.2, cond_true, gd_true, Next_eq hf hs hkj, Option.bind_some]
            by_cases g : Jn (edO l o) k j
            · simp only [decide_eq_true g, cond_true]
              rw [grd_true ⟨by omega, by omega⟩]
              exact ⟨_, rfl, s1 ⟨c.1, c.2, g⟩⟩
            · simp only [decide_eq_false g, cond_false]
              exact ⟨_, rfl, s2 fun h => g h.2.2⟩
          · by_cases c1 : y < 0
            · simp only [decide_eq_true c1, decide_eq_false fun h => c ⟨c1, h⟩, cond_true, cond_false, gd_false, Option.bind_some]
              exact ⟨_, rfl, s2 fun h => c ⟨h.1, h.2.1⟩⟩
            · simp only [decide_eq_false c1, cond_false, gd_false, Option.bind_some]
              exact ⟨_, rfl, s2 fun h => c ⟨h.1, h.2.1⟩⟩)
      refine ⟨e', by rw [h3]; rfl, h4.congr fun s t ht => ?_⟩
      rw [Int.toNat_natCast]; omega)
  refine ⟨e, h1, h2.1, fun t v hv => ?_⟩
  have := h2.2 t v hv
  have e1 : (∃ s : Nat, s < ((d.length : Nat) : Int).toNat ∧ d[s]? = some ((n : Int) - 1) ∧ Jn (edO l o) s t) ↔ (∃ s : Nat, d[s]? = some ((n : Int) - 1) ∧ Jn (edO l o) s t) :=
    exists_congr fun s => ⟨fun h => h.2, fun h => ⟨by have := (List.getElem?_eq_some_iff.1 h.1).1; omega, h⟩⟩
  rw [e1] at this
  exact this
theorem refSteps_eq {l : LanT} {o : List (List Bool)} (hf : FewL l) (h : LR l) (hs : Shp l o) {a : Int} (ha : 0 ≤ a ∧ a < l.Segs) : ref17_Steps l o a = some (stepsT l o a) := by
  have hseg := h.segs
  have hN : ((l.Segs.toNat : Nat) : Int) = l.Segs := by omega
  have hG := edO_bnd (o := o) h
  obtain ⟨_, e2⟩ := stepsT_eq hf h hs ha
  unfold ref17_Steps
  rw [loopF_count (ρ := List Int) (s0 := (([] : List Int), (0 : Int))) (body := ref17_Steps_c0 l) (fun k => (List.replicate k (-1), (k : Int))) l.Segs.toNat (List.replicate l.Segs.toNat (-1), l.Segs) rfl (by omega) (fun k hk => by
    unfold ref17_Steps_c0
    dsimp only
    rw [decide_eq_true (show (k : Int) < l.Segs by omega), cond_true, grd_true (fits_of (by rw [List.length_append, List.length_replicate]; simp; omega) (by decide)), w64_in (by omega) (by omega), List.replicate_succ']
    rfl) (by
    unfold ref17_Steps_c0
    dsimp only
    rw [decide_eq_false (show ¬ ((l.Segs.toNat : Nat) : Int) < l.Segs by omega), hN]; rfl), aft_some_nxt]
  dsimp only
  rw [grd_true ⟨by omega, by rw [List.length_replicate]; omega⟩]
  unfold gixN
  rw [List.getElem?_replicate, if_pos (by omega), Option.bind_some]
  obtain ⟨u, u1, u2⟩ := loopF_rec (ρ := List Int) (body := ref17_Steps_c1 l o) (fun s => (l.Segs - s.1).toNat) (fun s => ∃ n : Nat, s.1 = (n : Int) + 1 ∧ (n : Int) + 1 ≤ l.Segs ∧ Lv (Jn (edO l o)) a l.Segs.toNat n s.2) (fun _ => False)
    (fun s => s.2 = stepsT l o a) (fun s ⟨n, n1, n2, n3⟩ => by
      obtain ⟨m, d⟩ := s
      dsimp only at n1 n3
      subst n1
      unfold ref17_Steps_c1
      dsimp only
      have hdl := n3.1
      by_cases hc : (n : Int) + 1 < l.Segs
      · obtain ⟨e, r1, r2⟩ := round_eq (n := n + 1) (d := d) hf hs (by omega) (by omega)
        rw [show ((n + 1 : Nat) : Int) = (n : Int) + 1 by omega] at r1
        rw [decide_eq_true hc, cond_true, r1, aft_some_nxt, w64_in (by omega) (by omega)]
        exact ⟨_, rfl, ⟨n + 1, by dsimp only; omega, by omega, n3.round (by omega) (fun x y g => by have := hG x y g; omega) r2⟩, by dsimp only; omega⟩
      · rw [decide_eq_false hc]
        exact ⟨_, rfl, DT.uniq (n3.fin (by omega) (fun x y g => by have := hG x y g; omega) (by omega)) e2⟩)
    1000000 (1, (List.replicate l.Segs.toNat (-1)).set a.toNat 0) ⟨0, rfl, by omega, by
      have := Lv.start (G := Jn (edO l o)) (a := a.toNat) (N := l.Segs.toNat) (d := (List.replicate l.Segs.toNat (-1)).set a.toNat 0) (by rw [List.length_set, List.length_replicate]) (List.getElem?_set_self (by rw [List.length_replicate]; omega))
        (fun s h1 h2 => by rw [List.getElem?_set_ne (Ne.symm h2), List.getElem?_replicate, if_pos h1])
      rwa [Int.toNat_of_nonneg ha.1] at this⟩ (by dsimp only; omega)
  rw [u1]
  cases u with
  | ret r => exact u2.elim
  | brk s => exact u2.elim
  | nxt s => rw [aft_some_nxt]; exact congrArg some u2
theorem refReach_eq {l : LanT} {o : List (List Bool)} (hf : FewL l) (h : LR l) (hs : Shp l o) {a : Int} (ha : 0 ≤ a ∧ a < l.Segs) : ref17_Reach l o a = some (partI (edO l o) l.Segs a) := by
  have hseg := h.segs
  obtain ⟨_, e2⟩ := stepsT_eq hf h hs ha
  have hl := e2.1
  unfold ref17_Reach
  rw [refSteps_eq hf h hs ha, Option.bind_some, show (((stepsT l o a).length : Nat) : Int) = l.Segs by omega,
    reachRow (E := edO l o) (a := a) (d := stepsT l o a) (by omega) e2 (fun k v s hk hv hs => by
      unfold ref17_Reach_c0
      rw [grd_true ⟨by omega, by omega⟩, Int.toNat_natCast]
      unfold gixN
      rw [hv, Option.bind_some, grd_true (fits_of (by rw [List.length_append]; simp; omega) (by decide))]
      cases decide (0 ≤ v) <;> rfl)]
  rfl
/-- What a bridge copies. -/
def cpk (l : LanT) (o : List (List Bool)) (d : List Int) (k : Nat) : Int := match l.Plans[k]?, o[k]? with
  | some p, some q => bif (opn p q).any (fun s => decide (0 ≤ dv d s)) then (((opn p q).length : Nat) : Int) - 1 else 0
  | _, _ => 0
def tot (f : Nat → Int) : Nat → Int
  | 0 => 0
  | k + 1 => tot f k + f k
theorem cpk_bnd {l : LanT} {o : List (List Bool)} (hf : FewL l) (d : List Int) (k : Nat) : -1 ≤ cpk l o d k ∧ cpk l o d k ≤ 10 := by
  unfold cpk
  split
  · rename_i p q hp hq
    have h1 := hf.ports p (List.mem_of_getElem? hp)
    have h2 := opn_len p q
    cases (opn p q).any (fun s => decide (0 ≤ dv d s)) <;> simp <;> omega
  · omega
theorem tot_bnd {l : LanT} {o : List (List Bool)} (hf : FewL l) (d : List Int) (k : Nat) : -(k : Int) ≤ tot (cpk l o d) k ∧ tot (cpk l o d) k ≤ 10 * (k : Int) := by
  induction k with
  | zero => simp [tot]
  | succ k ih =>
    have := cpk_bnd (o := o) hf d k
    simp only [tot]
    omega
/-- The step back from t: the least one that is next to it and one nearer. -/
def Ch (E : List (List Int)) (d : List Int) (N t c : Int) : Prop := (0 ≤ c ∧ c < N) ∧ Jn E t c ∧ dv d c = dv d t - 1 ∧ ∀ x, 0 ≤ x → x < c → ¬ (Jn E t x ∧ dv d x = dv d t - 1)
theorem Ch.uniq {E : List (List Int)} {d : List Int} {N t c e : Int} (h : Ch E d N t c) (k : Ch E d N t e) : c = e := by
  by_cases h1 : c < e
  · exact absurd ⟨h.2.1, h.2.2.1⟩ (k.2.2.2 c h.1.1 h1)
  · by_cases h2 : e < c
    · exact absurd ⟨k.2.1, k.2.2.1⟩ (h.2.2.2 e k.1.1 h2)
    · omega
structure CI (E : List (List Int)) (d : List Int) (N b : Int) (n : Nat) (out : List Int) (t : Int) (m : Nat) : Prop where
  le : m ≤ n
  len : out.length = n - m + 1
  bnd : 0 ≤ t ∧ t < N
  val : dv d t = (m : Int)
  first : out[0]? = some b
  last : out[n - m]? = some t
  steps : ∀ (k : Nat) (x y : Int), out[k]? = some x → out[k + 1]? = some y → Ch E d N x y
theorem CI.start {E : List (List Int)} {d : List Int} {N b : Int} {n : Nat} (hb : 0 ≤ b ∧ b < N) (h1 : dv d b = (n : Int)) : CI E d N b n [b] b n where
  le := Nat.le_refl _
  len := by simp
  bnd := hb
  val := h1
  first := rfl
  last := by simp
  steps k x y hk hk' := by simp at hk'
theorem CI.ext {E : List (List Int)} {d : List Int} {N b : Int} {n : Nat} {out : List Int} {t c : Int} {m : Nat} (h : CI E d N b n out t (m + 1)) (hc : Ch E d N t c) : CI E d N b n (out ++ [c]) c m := by
  have h1 := h.le
  have h2 := h.len
  refine ⟨by omega, by rw [List.length_append]; simp; omega, hc.1, by rw [hc.2.2.1, h.val]; omega, by rw [List.getElem?_append_left (by omega)]; exact h.first, ?_, fun k x y hk hk' => ?_⟩
  · rw [List.getElem?_append_right (by omega), show n - m - out.length = 0 by omega]; rfl
  · have hl := (List.getElem?_eq_some_iff.1 hk').1
    rw [List.length_append, List.length_singleton] at hl
    rw [List.getElem?_append_left (by omega)] at hk
    by_cases e : k + 1 < out.length
    · rw [List.getElem?_append_left e] at hk'
      exact h.steps k x y hk hk'
    · rw [List.getElem?_append_right (by omega), show k + 1 - out.length = 0 by omega] at hk'
      have hy : c = y := Option.some.inj hk'
      have := h.last
      rw [show n - (m + 1) = k by omega, hk] at this
      rw [Option.some.inj this, ← hy]
      exact hc
theorem CI.uniq {E : List (List Int)} {d : List Int} {N b : Int} {n : Nat} {u w : List Int} {t s : Int} (h : CI E d N b n u t 0) (k : CI E d N b n w s 0) : u = w := by
  have h1 := h.len
  have k1 := k.len
  have : ∀ i, i < n + 1 → u[i]? = w[i]? := fun i => by
    induction i with
    | zero => intro _; rw [h.first, k.first]
    | succ i ih =>
      intro hi
      have hx : u[i]? = some (u[i]'(by omega)) := List.getElem?_eq_getElem _
      have hy : u[i + 1]? = some (u[i + 1]'(by omega)) := List.getElem?_eq_getElem _
      have hz : w[i + 1]? = some (w[i + 1]'(by omega)) := List.getElem?_eq_getElem _
      have hx' := hx
      rw [ih (by omega)] at hx'
      rw [hy, hz, (h.steps i _ _ hx hy).uniq (k.steps i _ _ hx' hz)]
  refine List.ext_getElem? fun i => ?_
  by_cases hi : i < n + 1
  · exact this i hi
  · rw [List.getElem?_eq_none (by omega), List.getElem?_eq_none (by omega)]
theorem CI.zero {E : List (List Int)} {d : List Int} {N : Nat} {a b : Int} {n : Nat} {u : List Int} {t : Int} {m : Nat} (h : CI E d N b n u t m) (hd : DT (Jn E) a N d) : t = a ↔ m = 0 := by
  have hb := h.bnd
  have hv := h.val
  have hD : Dist (Jn E) a m t := by
    rcases dt_dv hd hb.1 hb.2 with ⟨g1, _⟩ | ⟨q, g1, g2⟩
    · omega
    · have : q = m := by omega
      subst this; exact g2
  constructor
  · intro e
    have := hD.uniq (show Dist (Jn E) a 0 t by rw [e]; exact Dist.zero)
    omega
  · rintro rfl
    exact Dist.zero_iff.1 hD
end
end Go.RX
