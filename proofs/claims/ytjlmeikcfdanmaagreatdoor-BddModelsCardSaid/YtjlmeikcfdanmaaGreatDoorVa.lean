/-
  WHAT THE FUNCTIONS ANSWER: rows, orders, equality of lists.
-/
import Derived.Test.YtjlmeikcfdanmaaGreatDoorSa
import Derived.Test.YtjlmeikcfdanmaaGreatDoorDe25
import Derived.Test.YtjlmeikcfdanmaaGreatDoorTa
namespace Go.Proofs.YtjlmeikcfdanmaaGreatDoor.DE.V
open Go BT


theorem v92 (r : Row) : isoCall (call dp) 92 [.agg (eRow r)] = some (.b (rowOk r)) := by
  apply i92 _ _ rfl rfl
  simp [s92]
  repeat' split
  all_goals (simp_all [rowOk] <;> omega)

theorem v51 (r : Row) : isoCall (call dp) 51 [.agg (eRow r)] = some (.b (rowOk r)) := by
  apply i51 _ _ rfl rfl
  simp [s51]
  repeat' split
  all_goals (simp_all [rowOk] <;> omega)

theorem v12 (nl : Bool) (l : List Row) : isoCall (call dp) 12 [eRows nl l] = some (.b (decide (l.length ≤ 7))) := by
  apply i12 _ _ (by simp [noRefL]) rfl
  simp [s12]
  split <;> omega

theorem v11 (nl nl' : Bool) (ord : List Row) (ns : List Nd) (root : Int) : isoCall (call dp) 11 [eB nl nl' ord ns root] = some (.b (decide (ord.length ≤ 7) && decide (ns.length ≤ 40))) := by
  apply i11 _ _ (by simp [noRefL]) rfl
  simp [s11, v12]
  repeat' split
  all_goals (simp_all <;> omega)

theorem v77 (nl nl' : Bool) (ord : List Row) (ns : List Nd) (root r : Int) (h0 : in64 r) (h : r < ns.length + 2) : isoCall (call dp) 77 [eB nl nl' ord ns root, .i .i64 r] = some (.i .i64 (lev ord.length ns r)) := by
  apply i77 _ _ _ (by simp [noRefL, noRef]) rfl
  simp [s77]
  split
  · simp [lev, *]
  · obtain ⟨x, hx⟩ : ∃ x, ns[(r - 2).toNat]? = some x := ⟨_, List.getElem?_eq_getElem (by omega)⟩
    rw [wrap64 (n := r - 2) ⟨by have := h0.1; have := h0.2; omega, by have := h0.2; omega⟩, iaD_nds' _ (by omega) hx]
    simp [lev, *]

theorem v56 (nl nl' : Bool) (ord : List Row) (ns : List Nd) (root r : Int) (h0 : in64 r) (h : r < ns.length + 2) : isoCall (call dp) 56 [eB nl nl' ord ns root, .i .i64 r] = some (.i .i64 (lev ord.length ns r)) := by
  apply i56 _ _ _ (by simp [noRefL, noRef]) rfl
  simp [s56]
  split
  · simp [lev, *]
  · obtain ⟨x, hx⟩ : ∃ x, ns[(r - 2).toNat]? = some x := ⟨_, List.getElem?_eq_getElem (by omega)⟩
    rw [wrap64 (n := r - 2) ⟨by have := h0.1; have := h0.2; omega, by have := h0.2; omega⟩, iaD_nds' _ (by omega) hx]
    simp [lev, *]

/-- Two lists that agree up to k, and at k. -/
theorem take_next {α : Type} {l m : List α} {k : Nat} {x : α} (h : l.take k = m.take k) (hl : l[k]? = some x) (hm : m[k]? = some x) : l.take (k + 1) = m.take (k + 1) := by
  rw [List.take_add_one, List.take_add_one, h, hl, hm]

theorem take_full {α : Type} {l m : List α} {k : Nat} (h : l.take k = m.take k) (hl : l.length ≤ k) (hm : m.length ≤ k) : l = m := by
  rwa [List.take_of_length_le hl, List.take_of_length_le hm] at h

/-- A length that a machine holds. -/
abbrev Bd (n : Nat) : Prop := n < 4611686018427387904
theorem Bd.lt {n m : Nat} (h : Bd n) (k : m ≤ n) : Bd m := Nat.lt_of_le_of_lt k h
theorem wrapS {k : Nat} (h : Bd k) : IntKind.wrap .i64 ((k : Int) + 1) = ((k + 1 : Nat) : Int) := by
  rw [wrap64 ⟨by omega, by unfold Bd at h; omega⟩]; omega

theorem v74 (nl nl' : Bool) (l m : List Row) (hb : Bd m.length) : isoCall (call dp) 74 [eRows nl l, eRows nl' m] = some (.b (decide (l = m))) := by
  apply i74 _ _ _ (by simp [noRefL]) rfl
  simp [s74]
  by_cases hl : l.length = m.length
  · simp only [hl, if_true]
    let J : Nat → List D → Store → Prop := fun q fr S => ∃ k a4 a14, k + q = m.length ∧ l.take k = m.take k ∧ S = [] ∧ fr = mkf 26 [(0, eRows nl l), (1, eRows nl' m), (4, a4), (12, .i .i64 m.length), (13, .i .i64 k), (14, a14)]
    refine W_loop J ?_ m.length _ _ ⟨0, _, _, by simp, by simp, rfl, rfl⟩
    rintro q fr S ⟨k, a4, a14, hk, he, rfl, rfl⟩
    rw [← wp_W, e74_0]
    simp [s74_0]
    split
    · rename_i h
      obtain ⟨x, hx⟩ : ∃ x, l[k]? = some x := ⟨_, List.getElem?_eq_getElem (by omega)⟩
      obtain ⟨y, hy⟩ : ∃ x, m[k]? = some x := ⟨_, List.getElem?_eq_getElem (by omega)⟩
      simp [iaD_rows _ hx, iaD_rows _ hy]
      by_cases hxy : x = y
      · subst hxy
        simp [wrapS (hb.lt (Nat.le_of_lt h))]
        exact ⟨q - 1, by omega, k + 1, _, _, by omega, take_next he hx hy, rfl, rfl⟩
      · simp [hxy]
        exact fun e => hxy (by rw [e, hy] at hx; injection hx with hx; exact hx.symm)
    · simp [e74_r0, s74_r0]
      exact take_full he (by omega) (by omega)
  · rw [if_neg (by omega)]
    exact fun h => hl (by rw [h])

theorem v73 (nl nl' : Bool) (l m : List Nd) (hb : Bd m.length) : isoCall (call dp) 73 [eNds nl l, eNds nl' m] = some (.b (decide (l = m))) := by
  apply i73 _ _ _ (by simp [noRefL]) rfl
  simp [s73]
  by_cases hl : l.length = m.length
  · simp only [hl, if_true]
    let J : Nat → List D → Store → Prop := fun q fr S => ∃ k a4 a14, k + q = m.length ∧ l.take k = m.take k ∧ S = [] ∧ fr = mkf 26 [(0, eNds nl l), (1, eNds nl' m), (4, a4), (12, .i .i64 m.length), (13, .i .i64 k), (14, a14)]
    refine W_loop J ?_ m.length _ _ ⟨0, _, _, by simp, by simp, rfl, rfl⟩
    rintro q fr S ⟨k, a4, a14, hk, he, rfl, rfl⟩
    rw [← wp_W, e73_0]
    simp [s73_0]
    split
    · rename_i h
      obtain ⟨x, hx⟩ : ∃ x, l[k]? = some x := ⟨_, List.getElem?_eq_getElem (by omega)⟩
      obtain ⟨y, hy⟩ : ∃ x, m[k]? = some x := ⟨_, List.getElem?_eq_getElem (by omega)⟩
      simp [iaD_nds _ hx, iaD_nds _ hy]
      by_cases hxy : x = y
      · subst hxy
        simp [wrapS (hb.lt (Nat.le_of_lt h))]
        exact ⟨q - 1, by omega, k + 1, _, _, by omega, take_next he hx hy, rfl, rfl⟩
      · simp [hxy]
        exact fun e => hxy (by rw [e, hy] at hx; injection hx with hx; exact hx.symm)
    · simp [e73_r0, s73_r0]
      exact take_full he (by omega) (by omega)
  · rw [if_neg (by omega)]
    exact fun h => hl (by rw [h])

theorem v52 (nl nl' : Bool) (l m : List Row) (hb : Bd m.length) : isoCall (call dp) 52 [eRows nl l, eRows nl' m] = some (.b (decide (l = m))) := by
  apply i52 _ _ _ (by simp [noRefL]) rfl
  simp [s52]
  by_cases hl : l.length = m.length
  · simp only [hl, if_true]
    let J : Nat → List D → Store → Prop := fun q fr S => ∃ k a4 a14, k + q = m.length ∧ l.take k = m.take k ∧ S = [] ∧ fr = mkf 26 [(0, eRows nl l), (1, eRows nl' m), (4, a4), (5, .i .i64 k), (14, a14)]
    refine W_loop J ?_ m.length _ _ ⟨0, _, _, by simp, by simp, rfl, rfl⟩
    rintro q fr S ⟨k, a4, a14, hk, he, rfl, rfl⟩
    rw [← wp_W, e52_0]
    simp [s52_0, hl]
    split
    · rename_i h
      obtain ⟨x, hx⟩ : ∃ x, l[k]? = some x := ⟨_, List.getElem?_eq_getElem (by omega)⟩
      obtain ⟨y, hy⟩ : ∃ x, m[k]? = some x := ⟨_, List.getElem?_eq_getElem (by omega)⟩
      simp [iaD_rows _ hx, iaD_rows _ hy]
      by_cases hxy : x = y
      · subst hxy
        simp [wrapS (hb.lt (Nat.le_of_lt h))]
        exact ⟨q - 1, by omega, k + 1, _, _, by omega, take_next he hx hy, rfl, rfl⟩
      · simp [hxy]
        exact fun e => hxy (by rw [e, hy] at hx; injection hx with hx; exact hx.symm)
    · simp [e52_r0, s52_r0]
      exact take_full he (by omega) (by omega)
  · rw [if_neg (by omega)]
    exact fun h => hl (by rw [h])

theorem v17 (n1 n1' n2 n2' : Bool) (o1 o2 : List Row) (l m : List Nd) (r1 r2 : Int) (hb : Bd m.length) (hb' : Bd o2.length) :
    isoCall (call dp) 17 [eB n1 n1' o1 l r1, eB n2 n2' o2 m r2] = some (.b (decide (o1 = o2 ∧ l = m ∧ r1 = r2))) := by
  apply i17 _ _ _ (by simp [noRefL]) rfl
  simp [s17, v52 _ _ _ _ hb']
  by_cases hr : r1 = r2
  · simp only [hr, if_true]
    by_cases ho : o1 = o2
    · simp only [ho, if_true]
      by_cases hl : l.length = m.length
      · simp only [hl, if_true]
        let J : Nat → List D → Store → Prop := fun q fr S => ∃ k a4 a14, k + q = m.length ∧ l.take k = m.take k ∧ sget S 0 = some (.box [eRows n1 o2, eNds n1' l, .i .i64 r2]) ∧ sget S 1 = some (.box [eRows n2 o2, eNds n2' m, .i .i64 r2]) ∧ fr = mkf 46 [(2, .bx 0 0), (3, .bx 1 0), (4, a4), (5, .i .i64 k), (32, a14)]
        refine W_loop J ?_ m.length _ _ ⟨0, _, _, by simp, by simp, rfl, rfl, rfl⟩
        rintro q fr S ⟨k, a4, a14, hk, he, hS0, hS1, rfl⟩
        rw [← wp_W, e17_0]
        simp [s17_0, hl, hS0, hS1]
        split
        · rename_i h
          obtain ⟨x, hx⟩ : ∃ x, l[k]? = some x := ⟨_, List.getElem?_eq_getElem (by omega)⟩
          obtain ⟨y, hy⟩ : ∃ x, m[k]? = some x := ⟨_, List.getElem?_eq_getElem (by omega)⟩
          simp [iaD_nds _ hx, iaD_nds _ hy, hS0, hS1]
          by_cases hxy : x = y
          · subst hxy
            simp [wrapS (hb.lt (Nat.le_of_lt h))]
            exact ⟨q - 1, by omega, k + 1, _, _, by omega, take_next he hx hy, hS0, hS1, rfl⟩
          · simp [hxy]
            exact fun e => hxy (by rw [e, hy] at hx; injection hx with hx; exact hx.symm)
        · simp [e17_r0, s17_r0]
          exact take_full he (by omega) (by omega)
      · rw [if_neg (by omega)]
        simp
        exact fun h => hl (by rw [h])
    · simp [ho]
  · simp [hr]

theorem v49 (nl : Bool) (l : List Row) (h : nl = true → l = []) (hb : l.length ≤ maxLenD) : isoCall (call dp) 49 [eRows nl l] = some (eRows nl l) := by
  apply i49 _ _ (by simp [noRefL]) (by simp)
  simp [s49]
  split
  · rename_i hn
    subst hn
    rw [h rfl]; rfl
  · rename_i hn
    have hn : nl = false := by simpa using hn
    subst hn
    have h1 : (l.map eRow).length ≤ maxLenD := by simpa using hb
    simp only [eRows, cellsV_nil, OX_some, bslO_nil, app_cap0 _ h1]
    split
    · rename_i e; rw [e]; rfl
    · rfl

def OrdOk (l : List Row) : Prop := (∀ r, r ∈ l → rowOk r = true) ∧ l.Nodup

open Classical in
theorem v48 (nl : Bool) (l : List Row) (hb : Bd l.length) : isoCall (call dp) 48 [eRows nl l] = some (.b (decide (OrdOk l ∧ l.length ≤ 4096))) := by
  apply i48 _ _ (by simp [noRefL]) rfl
  simp [s48]
  let J : Nat → List D → Store → Prop := fun q fr S => ∃ k a2 a10, k + q = l.length ∧ OrdOk (l.take k) ∧ sget S 0 = some (.map (eMap (fun r : Row => .agg (eRow r)) D.b ((l.take k).map fun r => (r, true)))) ∧ fr = mkf 27 [(0, eRows nl l), (2, a2), (3, .mp 0), (7, eRows nl l), (8, .i .i64 l.length), (9, .i .i64 k), (10, a10)]
  refine W_loop J ?_ l.length _ _ ⟨0, _, _, by simp, by simp [OrdOk], rfl, rfl⟩
  rintro q fr S ⟨k, a2, a10, hk, ho, hS, rfl⟩
  rw [← wp_W, e48_0]
  have hlt := sget_lt hS
  have hne : S ≠ [] := by intro e; simp [e] at hlt
  simp [s48_0]
  split
  · rename_i h
    obtain ⟨x, hx⟩ : ∃ x, l[k]? = some x := ⟨_, List.getElem?_eq_getElem (by omega)⟩
    simp [iaD_rows _ hx, v92, hne, hS]
    have hS' : sget (Ent.box (eRow x) :: S) 0 = _ := sget_push hS
    have hin : x ∈ l.take k ∨ assoc x ((l.take k).map fun r => (r, true)) = none := by
      by_cases hm : x ∈ l.take k
      · exact .inl hm
      · right
        rw [assoc_none]
        intro p hp e
        obtain ⟨y, hy, rfl⟩ := List.mem_map.1 hp
        exact hm (e ▸ hy)
    have ht : l.take (k + 1) = l.take k ++ [x] := by rw [List.take_add_one, hx]; rfl
    have hin' : ¬ OrdOk (l.take (k + 1)) → ¬ OrdOk l := by
      intro h1 h2
      exact h1 ⟨fun r hr => h2.1 r (List.mem_of_mem_take hr), h2.2.sublist (List.take_sublist _ _)⟩
    split
    · rename_i hr
      rcases hin with hm | ha
      · have hx' : assoc x ((l.take k).map fun r => (r, true)) = some true := by
          cases ha : assoc x ((l.take k).map fun r => (r, true)) with
          | none => exact absurd rfl (assoc_none.1 ha (x, true) (List.mem_map.2 ⟨x, hm, rfl⟩))
          | some b =>
            have : ∀ (m : List Row) b, assoc x (m.map fun r => (r, true)) = some b → b = true := by
              intro m
              induction m with
              | nil => intro b h; cases h
              | cons y m ih =>
                intro b h
                simp only [List.map_cons, assoc] at h
                split at h
                · injection h with h; exact h.symm
                · exact ih b h
            rw [this _ b ha]
        rw [lkD'_mp keyE_row (a := x) (isKey_row x) hS', hx']
        simp
        intro ho'
        refine absurd ho' (hin' ?_)
        rw [ht]
        intro h1
        have := h1.2
        rw [List.nodup_append] at this
        exact this.2.2 x hm x (by simp) rfl
      · rw [lkD'_mp keyE_row (a := x) (isKey_row x) hS', ha]
        simp
        rw [muD'_new keyE_row (a := x) (b := true) (isKey_row x) hS' ha]
        simp only [OX_some, bin_add, wrapS (hb.lt (Nat.le_of_lt h)), Qseq_normal]
        have hnm : x ∉ l.take k := fun hm => (assoc_none.1 ha (x, true) (List.mem_map.2 ⟨x, hm, rfl⟩)) rfl
        refine ⟨q - 1, by omega, k + 1, _, _, by omega, ?_, ?_, rfl⟩
        · rw [ht]
          refine ⟨?_, ?_⟩
          · intro r hr'
            rcases List.mem_append.1 hr' with hr' | hr'
            · exact ho.1 r hr'
            · rw [List.mem_singleton.1 hr']; exact hr
          · rw [List.nodup_append]
            refine ⟨ho.2, by simp, ?_⟩
            intro a ha' b hb' e
            rw [List.mem_singleton.1 hb'] at e
            exact hnm (e ▸ ha')
        · rw [ht, List.map_append]
          exact sget_sset _ (by simp)
    · rename_i hr
      intro ho'
      exact absurd (ho'.1 x (List.mem_of_getElem? hx)) hr
  · have : l.take k = l := List.take_of_length_le (by omega)
    rw [this] at ho
    simp [e48_r0, s48_r0, ho]
    split <;> omega

theorem nodup_snoc {α : Type} {l : List α} {x : α} : (l ++ [x]).Nodup ↔ l.Nodup ∧ x ∉ l := by
  rw [List.nodup_append]
  constructor
  · exact fun h => ⟨h.1, fun k => h.2.2 x k x (by simp) rfl⟩
  · exact fun h => ⟨h.1, by simp, fun a ha b hb e => h.2 (by rw [List.mem_singleton.1 hb] at e; exact e ▸ ha)⟩

theorem OrdOk_snoc {l : List Row} {x : Row} : OrdOk (l ++ [x]) ↔ OrdOk l ∧ rowOk x = true ∧ x ∉ l := by
  simp only [OrdOk, nodup_snoc, List.mem_append, List.mem_singleton]
  constructor
  · exact fun h => ⟨⟨fun r hr => h.1 r (.inl hr), h.2.1⟩, h.1 x (.inr rfl), h.2.2⟩
  · exact fun h => ⟨fun r hr => hr.elim (h.1.1 r) (fun e => e ▸ h.2.1), h.1.2, h.2.2⟩

theorem OrdOk_take {l : List Row} (k : Nat) (h : OrdOk l) : OrdOk (l.take k) :=
  ⟨fun r hr => h.1 r (List.mem_of_mem_take hr), h.2.sublist (List.take_sublist _ _)⟩

theorem take_snoc {α : Type} {l : List α} {k : Nat} {x : α} (hx : l[k]? = some x) : l.take (k + 1) = l.take k ++ [x] := by rw [List.take_add_one, hx]; rfl

open Classical in
theorem v16 (nl : Bool) (l : List Row) (hb : Bd l.length) : isoCall (call dp) 16 [eRows nl l] = some (.b (decide (OrdOk l ∧ l.length ≤ 4096))) := by
  apply i16 _ _ (by simp [noRefL]) rfl
  simp [s16]
  let J : Nat → List D → Store → Prop := fun q fr S => ∃ k a2 a4 a8 a19, k + q = l.length ∧ OrdOk (l.take k) ∧ fr = mkf 34 [(0, eRows nl l), (2, a2), (3, .i .i64 k), (4, a4), (8, a8), (19, a19)]
  refine W_loop J ?_ l.length _ _ ⟨0, _, _, _, _, by simp, by simp [OrdOk], rfl⟩
  rintro q fr S ⟨k, a2, a4, a8, a19, hk, ho, rfl⟩
  rw [← wp_W, e16_1]
  simp [s16_1]
  split
  · rename_i h
    obtain ⟨x, hx⟩ : ∃ x, l[k]? = some x := ⟨_, List.getElem?_eq_getElem (by omega)⟩
    have ht := take_snoc hx
    simp [iaD_rows _ hx, v51]
    split
    · rename_i hr
      let J2 : Nat → List D → Store → Prop := fun q fr S => ∃ j a2 a19, j + q = k ∧ x ∉ l.take j ∧ fr = mkf 34 [(0, eRows nl l), (2, a2), (3, .i .i64 k), (4, .i .i64 j), (8, .top), (19, a19)]
      refine W_loop J2 ?_ k _ _ ⟨0, _, _, by simp, by simp, rfl⟩
      rintro q' fr S ⟨j, a2, a19, hj, hn, rfl⟩
      rw [← wp_W, e16_0]
      simp [s16_0]
      split
      · rename_i hjk
        obtain ⟨y, hy⟩ : ∃ x, l[j]? = some x := ⟨_, List.getElem?_eq_getElem (by omega)⟩
        simp [iaD_rows _ hx, iaD_rows _ hy]
        split
        · rename_i e
          intro ho'
          have := OrdOk_take (k + 1) ho'
          rw [ht, OrdOk_snoc] at this
          refine absurd ?_ this.2.2
          have hy' : (l.take k)[j]? = some y := by rw [List.getElem?_take, if_pos hjk]; exact hy
          exact e ▸ List.mem_of_getElem? hy'
        · rename_i e
          simp [wrapS (hb.lt (show j ≤ l.length by omega))]
          refine ⟨q' - 1, by omega, j + 1, _, _, by omega, ?_, rfl⟩
          rw [take_snoc hy]
          simp [hn]
          exact fun h => e h.symm
      · simp [e16_r0, s16_r0, wrapS (hb.lt (Nat.le_of_lt h))]
        refine ⟨q - 1, by omega, k + 1, _, _, _, _, by omega, ?_, rfl⟩
        have : j = k := by omega
        subst this
        rw [ht, OrdOk_snoc]
        exact ⟨ho, hr, hn⟩
    · rename_i hr
      intro ho'
      exact absurd (ho'.1 x (List.mem_of_getElem? hx)) hr
  · have : l.take k = l := List.take_of_length_le (by omega)
    rw [this] at ho
    simp [e16_r1, s16_r1, ho]
    split <;> omega

end Go.Proofs.YtjlmeikcfdanmaaGreatDoor.DE.V
