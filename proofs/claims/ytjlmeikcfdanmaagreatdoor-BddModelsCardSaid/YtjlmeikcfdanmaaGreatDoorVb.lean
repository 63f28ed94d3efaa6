/-
  WHAT THE FUNCTIONS ANSWER: the shape of a diagram.
-/
import Derived.Test.YtjlmeikcfdanmaaGreatDoorVa
namespace Go.Proofs.YtjlmeikcfdanmaaGreatDoor.DE.V
open Go BT


theorem Sh_take {n : Nat} {ns : List Nd} (k : Nat) (h : Sh n ns) : Sh n (ns.take k) := Sh_pre (ms := ns.drop k) (by rwa [List.take_append_drop])

theorem lev_take {n k : Nat} {ns : List Nd} {r : Int} (h : r < k + 2) (hk : k ≤ ns.length) : lev n (ns.take k) r = lev n ns r := by
  have := lev_app (n := n) (ns := ns.take k) (ns.drop k) (r := r) (by rw [List.length_take]; omega)
  rw [List.take_append_drop] at this
  exact this.symm

theorem assoc_true {α : Type} [DecidableEq α] (x : α) : ∀ l : List α, assoc x (l.map fun r => (r, true)) = if x ∈ l then some true else none
  | [] => by simp [assoc]
  | y :: l => by
    simp only [List.map_cons, assoc, assoc_true x l, List.mem_cons]
    by_cases h : x = y <;> simp [h]

/-- The reading of a set of what was seen. -/
theorem seenD {α : Type} [DecidableEq α] {kk : KK} {ek : α → D} (h : KeyE kk ek) {a : α} (hk : isKey kk (ek a) = true) {S : Store} {id : Nat} {l : List α} (hS : sget S id = some (.map (eMap ek D.b (l.map fun r => (r, true))))) :
    lkD' kk false (.b false) S (.mp id) (ek a) = some (.b (decide (a ∈ l))) := by
  rw [lkD'_mp h hk hS, assoc_true]
  split <;> simp [*]

theorem seenU {α : Type} [DecidableEq α] {kk : KK} {ek : α → D} (h : KeyE kk ek) {a : α} (hk : isKey kk (ek a) = true) {S : Store} {id : Nat} {l : List α} (hS : sget S id = some (.map (eMap ek D.b (l.map fun r => (r, true))))) (ha : a ∉ l) :
    muD' kk S (.mp id) (ek a) (.b true) = some (sset S id (.map (eMap ek D.b ((l ++ [a]).map fun r => (r, true))))) := by
  rw [muD'_new h hk hS (ev := D.b) (b := true) (by rw [assoc_true, if_neg ha])]
  simp

open Classical in
theorem v71 (nl nl' : Bool) (ord : List Row) (ns : List Nd) (root : Int) (hb : Bd (ns.length + 2)) :
    isoCall (call dp) 71 [eB nl nl' ord ns root] = some (.b (decide (Sh ord.length ns ∧ 0 ≤ root ∧ root < ns.length + 2))) := by
  obtain ⟨c, hc⟩ : ∃ c, c = decide (Sh ord.length ns ∧ 0 ≤ root ∧ root < ns.length + 2) := ⟨_, rfl⟩
  rw [← hc]
  apply i71 _ _ (by simp [noRefL]) rfl
  simp [s71]
  let J : Nat → List D → Store → Prop := fun q fr S => ∃ k a2 a12, k + q = ns.length ∧ Sh ord.length (ns.take k) ∧ sget S 0 = some (.box [eRows nl ord, eNds nl' ns, .i .i64 root]) ∧ sget S 1 = some (.map (eMap (fun r : Nd => .agg (eNd r)) D.b ((ns.take k).map fun r => (r, true)))) ∧
    fr = mkf 98 [(1, .bx 0 0), (2, a2), (3, .mp 1), (9, eNds nl' ns), (10, .i .i64 ns.length), (11, .i .i64 k), (12, a12)]
  refine W_loop J ?_ ns.length _ _ ⟨0, _, _, by simp, by simp [Sh_nil], by simp, by simp [eMap], rfl⟩
  rintro q fr S ⟨k, a2, a12, hk, ho, hS0, hS1, rfl⟩
  rw [← wp_W, e71_0]
  simp [s71_0]
  split
  · rename_i h
    obtain ⟨x, hx⟩ : ∃ x, ns[k]? = some x := ⟨_, List.getElem?_eq_getElem (by omega)⟩
    have ht := take_snoc hx
    have hlt := sget_lt hS1
    have hne : S ≠ [] := by intro e; simp [e] at hlt
    have h1ne : ¬ 1 = S.length := by omega
    have h0ne : ¬ 0 = S.length := by omega
    have w2 : IntKind.i64.wrap ((k : Int) + 2) = k + 2 := wrap64 ⟨by omega, by unfold Bd at hb; omega⟩
    have hok : Sh ord.length ns → okNd ord.length (ns.take k) x := fun hs => (Sh_snoc.1 (ht ▸ Sh_take (k + 1) hs)).2
    have hok' : okNd ord.length (ns.take k) x → Sh ord.length (ns.take (k + 1)) := fun h => by rw [ht]; exact Sh_snoc.2 ⟨ho, h⟩
    have hl : (ns.take k).length = k := by rw [List.length_take]; omega
    have hS1' : sget (Ent.box (eNd x) :: S) 1 = _ := sget_push hS1
    have hS0' : sget (Ent.box (eNd x) :: S) 0 = _ := sget_push hS0
    have hseen := seenD keyE_nd (isKey_nd x) hS1'
    by_cases hin : 0 ≤ x.2.1 ∧ 0 ≤ x.2.2 ∧ x.2.1 < k + 2 ∧ x.2.2 < k + 2
    · obtain ⟨i1, i2, i3, i4⟩ := hin
      have e1 := v77 nl nl' ord ns root x.2.1 ⟨by omega, by unfold Bd at hb; omega⟩ (by omega)
      have e2 := v77 nl nl' ord ns root x.2.2 ⟨by omega, by unfold Bd at hb; omega⟩ (by omega)
      rw [← lev_take i3 (by omega)] at e1
      rw [← lev_take i4 (by omega)] at e2
      simp only [eB] at e1 e2
      by_cases hx' : okNd ord.length (ns.take k) x
      · obtain ⟨⟨c1, c2⟩, -, c3, ⟨c4, c5⟩, c6⟩ := hx'
        have hu := seenU keyE_nd (isKey_nd x) hS1' c6
        have f1 : ¬ x.1 < 0 := by omega
        have f2 : ¬ (ord.length : Int) ≤ x.1 := by omega
        have f4 : ¬ lev ord.length (ns.take k) x.2.1 ≤ x.1 := by omega
        have f5 : ¬ lev ord.length (ns.take k) x.2.2 ≤ x.1 := by omega
        simp [-sset_cons, iaD_nds _ hx, w2, hS0, h0ne, i1, i2, i3, i4, e1, e2, f1, f2, c3, f4, f5, c6, hseen, hu, wrapS (show Bd k by unfold Bd at *; omega)]
        refine ⟨q - 1, by omega, k + 1, _, _, by omega, hok' ⟨⟨c1, c2⟩, by rw [hl]; exact ⟨⟨i1, i3⟩, ⟨i2, i4⟩⟩, c3, ⟨c4, c5⟩, c6⟩, ?_, ?_, rfl⟩
        · rw [sget_sset_ne _ (by omega)]; exact hS0'
        · have := sget_sset (Ent.map (eMap (fun r : Nd => .agg (eNd r)) D.b ((ns.take k ++ [x]).map fun r => (r, true)))) (sget_lt hS1')
          rw [ht]
          simpa [-sset_cons] using this
      · have hno : c = false := by rw [hc]; exact decide_eq_false fun hs => hx' (hok hs.1)
        simp [iaD_nds _ hx, w2, hS0, h0ne, i1, i2, i3, i4, e1, e2, hseen, hno]
        intro f1 f2 f3 f4 f5 f6
        exact absurd ⟨⟨f1, f2⟩, by rw [hl]; exact ⟨⟨i1, i3⟩, ⟨i2, i4⟩⟩, f3, ⟨f5, f6⟩, f4⟩ hx'
    · have hno : c = false := by rw [hc]; exact decide_eq_false fun hs => hin (by have := (hok hs.1).2.1; rw [hl] at this; omega)
      simp [iaD_nds _ hx, w2, hS0, h0ne, hseen, hno]
      intro i1 i2 i3 i4
      exact absurd ⟨i1, i2, i3, i4⟩ hin
  · have : ns.take k = ns := List.take_of_length_le (by omega)
    rw [this] at ho
    simp [e71_r0, s71_r0, ho, hS0]
    rw [wrap64 ⟨by omega, by unfold Bd at hb; omega⟩]
    simp [ho] at hc
    by_cases h1 : 0 ≤ root
    · by_cases h2 : root < ns.length + 2
      · simp [h1, h2, hc]
      · simp [h1, h2, hc]
    · simp [h1, hc]

/-! The walk in depth. -/
def Pres (S S' : Store) : Prop := ∀ id cs, sget S id = some (.box cs) → sget S' id = some (.box cs)
theorem Pres.refl (S : Store) : Pres S S := fun _ _ h => h
theorem Pres.trans {S S' S'' : Store} (h : Pres S S') (k : Pres S' S'') : Pres S S'' := fun id cs e => k id cs (h id cs e)
theorem Pres.push (e : Ent) (S : Store) : Pres S (e :: S) := fun _ _ h => sget_push h
theorem Pres.tok {S : Store} {t : Nat} {b : Bool} (c : Bool) (h : sget S t = some (.tok b)) : Pres S (sset S t (.tok c)) := by
  intro id cs e
  rw [sget_sset_ne]
  · exact e
  · rintro rfl; rw [h] at e; cases e

def eInts (nl : Bool) (l : List Int) (o : Own) : D := .sl 1 nl (l.map fun n => [.i .i64 n]) o

/-- A slice that may be appended to: nil, or with its holder alive. -/
def Liv (S : Store) (nl : Bool) (n : Nat) (o : Own) : Prop := (nl = true ∧ n = 0 ∧ o = .ro) ∨ (nl = false ∧ ∃ t, o = .tok t ∧ sget S t = some (.tok true))

theorem Liv.push {S : Store} {nl : Bool} {n : Nat} {o : Own} (e : Ent) (h : Liv S nl n o) : Liv (e :: S) nl n o := by
  rcases h with h | ⟨h, t, ho, ht⟩
  · exact .inl h
  · exact .inr ⟨h, t, ho, sget_push ht⟩

theorem app_liv {k : Nat} {nl n' : Bool} {xs : List (List D)} {ys : List (List D)} {o o' : Own} {S : Store} (h : Liv S nl xs.length o) (hl : xs.length + ys.length ≤ maxLenD) (hy : ys ≠ []) :
    ∃ t S', appD k false (.sl k nl xs o) (.sl k n' ys o') S = some (.sl k false (xs ++ ys) (.tok t), S') ∧ sget S' t = some (.tok true) ∧ Pres S S' ∧ (∀ id es, sget S id = some (.map es) → sget S' id = some (.map es)) ∧ S'.length = S.length + 1 ∧ t = S.length ∧ ∀ id e, sget S id = some e → (∀ t, o = .tok t → id ≠ t) → sget S' id = some e := by
  rcases h with ⟨h1, h2, h3⟩ | ⟨h1, t, ho, ht⟩
  · subst h1 h3
    have : xs = [] := List.length_eq_zero_iff.1 h2
    subst this
    refine ⟨S.length, .tok true :: S, ?_, by simp, Pres.push _ _, fun _ _ e => sget_push e, by simp, rfl, fun _ _ e _ => sget_push e⟩
    rw [app_nil (o := .ro) S (by simpa using hl) (by intro t e; cases e), if_neg hy]
    rfl
  · subst h1 ho
    refine ⟨S.length, .tok true :: sset S t (.tok false), app_tok S hl ht, ?_, ?_, ?_, by simp [sset_len], rfl, fun id e he hne => sget_push (by rw [sget_sset_ne _ (hne t rfl)]; exact he)⟩
    · have := sget_top (Ent.tok true) (sset S t (.tok false))
      rwa [sset_len] at this
    · exact (Pres.tok false ht).trans (Pres.push _ _)
    · intro id es e
      apply sget_push
      rw [sget_sset_ne]
      · exact e
      · rintro rfl; rw [ht] at e; cases e

theorem Her_sub {L : List T} (h : Cl L) : Her (sub L) := fun _ _ _ k => Cl_kids h _ k

theorem Cl_nodup {L : List T} : Cl L → L.Nodup := by
  induction L using snoc_ind with
  | h0 => intro _; simp
  | h1 L t ih => intro h; obtain ⟨a, b, _⟩ := Cl_snoc.1 h; exact nodup_snoc.2 ⟨ih a, b⟩

theorem nodup_len {α : Type} [DecidableEq α] : ∀ {M L : List α}, M.Nodup → (∀ x, x ∈ M → x ∈ L) → M.length ≤ L.length
  | [], _, _, _ => Nat.zero_le _
  | x :: M, L, hn, hs => by
    have hx : x ∈ L := hs x (by simp)
    have hn' := List.nodup_cons.1 hn
    have := nodup_len (M := M) (L := L.erase x) hn'.2 (fun y hy => (List.mem_erase_of_ne (by rintro rfl; exact hn'.1 hy)).2 (hs y (List.mem_cons_of_mem _ hy)))
    rw [List.length_erase_of_mem hx] at this
    have := List.length_pos_of_mem hx
    simp only [List.length_cons]
    omega

/-- What the walk holds: behind M, within L. -/
theorem post_in {L M : List T} {t : T} (hL : Cl L) (hM : Cl M) (hs : ∀ s, s ∈ M → s ∈ L) (ht : sub L t) : Cl (post t M) ∧ sub (post t M) t ∧ (∀ s, s ∈ post t M → s ∈ L) ∧ (post t M).length ≤ L.length := by
  obtain ⟨N, e, c, st, p, _⟩ := post_spec t M hM
  rw [e]
  have hin : ∀ s, s ∈ M ++ N → s ∈ L := by
    intro s h
    have hk := Cl_kids c s h
    rcases List.mem_append.1 h with h | h
    · exact hs s h
    · have := p _ (Her_sub hL) ht s h
      revert hk this
      cases s with
      | leaf _ => exact fun h => h.elim
      | node _ _ _ => exact fun _ h => h
  exact ⟨c, st, hin, nodup_len (Cl_nodup c) hin⟩

theorem eInts_cells (l : List Int) (k : Nat) {n : Int} (h : l[k]? = some n) (nl : Bool) (o : Own) : iaD 1 (eInts nl l o) (.i .i64 k) = some (.el [.i .i64 n] 0) := by
  simp [eInts, iaD, h]
@[simp] theorem eInts_len (nl : Bool) (l : List Int) (o : Own) : lenD false (eInts nl l o) = some (.i .i64 l.length) := by simp [eInts, lenD]

theorem v57 (nl nl' : Bool) (ord : List Row) (root : Int) {L : List T} (hc : Cl L) (hb : L.length ≤ 4096) : ∀ (t : T) (M : List T) (n : Bool) (o : Own) (S : Store), sub L t → Cl M → (∀ s, s ∈ M → s ∈ L) → Liv S n M.length o →
    ∃ n' o' S', call dp 57 [eB nl nl' ord (nds L) root, .i .i64 (code L t), eInts n (M.map (code L)) o] S = some (eInts n' ((post t M).map (code L)) o', S') ∧ Liv S' n' (post t M).length o' ∧ Pres S S' := by
  intro t
  induction t with
  | leaf b =>
    intro M n o S _ _ _ hl
    have := f57 (eB nl nl' ord (nds L) root) (.i .i64 (code L (.leaf b))) (eInts n (M.map (code L)) o) S (fun r S' => r = eInts n (M.map (code L)) o ∧ Liv S' n M.length o ∧ Pres S S') (by
      simp [s57, code_leaf_lt]
      exact ⟨hl.push _, Pres.push _ _⟩)
    obtain ⟨r, S', e, rfl, h1, h2⟩ := this
    exact ⟨n, o, S', e, h1, h2⟩
  | node v l h ihl ihh =>
    intro M n o S ht hM hML hl
    obtain ⟨kl, kh⟩ := Cl_kids hc _ ht
    have hge := code_node_ge L v l h
    have hlt := code_lt ht
    have hpos : (code L (.node v l h) - 2).toNat = pos L (.node v l h) := by simp only [code]; omega
    have hnd := nds_get ht
    have hml : M.length ≤ L.length := nodup_len (Cl_nodup hM) hML
    let P : D → Store → Prop := fun r S' => ∃ n' o', r = eInts n' ((post (.node v l h) M).map (code L)) o' ∧ Liv S' n' (post (.node v l h) M).length o' ∧ Pres S S'
    have := f57 (eB nl nl' ord (nds L) root) (.i .i64 (code L (.node v l h))) (eInts n (M.map (code L)) o) S P (by
      simp [s57, show ¬ code L (.node v l h) < 2 by omega]
      let J : Nat → List D → Store → Prop := fun q fr S' => ∃ k a6 a14, k + q = M.length ∧ T.node v l h ∉ M.take k ∧ S' = Ent.box [eRows nl ord, eNds nl' (nds L), .i .i64 root] :: S ∧
        fr = mkf 48 [(1, .i .i64 (code L (.node v l h))), (2, eInts n (M.map (code L)) o), (3, .bx S.length 0), (6, a6), (7, .i .i64 k), (14, a14)]
      refine W_loop J ?_ M.length _ _ ⟨0, _, _, by simp, by simp, rfl, rfl⟩
      rintro q fr S' ⟨k, a6, a14, hk, hn, rfl, rfl⟩
      rw [← wp_W, e57_0]
      simp [s57_0]
      split
      · rename_i hkl
        obtain ⟨x, hx⟩ : ∃ x, M[k]? = some x := ⟨_, List.getElem?_eq_getElem (by omega)⟩
        have hxL := hML x (List.mem_of_getElem? hx)
        have hxs : sub L x := by
          have := Cl_kids hM x (List.mem_of_getElem? hx)
          revert this hxL
          cases x with
          | leaf _ => exact fun _ h => h.elim
          | node _ _ _ => exact fun h _ => h
        rw [eInts_cells _ k (n := code L x) (by simp [hx])]
        simp
        by_cases e : x = .node v l h
        · subst e
          have hp : post (.node v l h) M = M := by rw [post, if_pos (List.mem_of_getElem? hx)]
          simp
          exact ⟨n, o, by rw [hp], by rw [hp]; exact hl.push _, Pres.push _ _⟩
        · have hne : code L x ≠ code L (.node v l h) := fun e' => e (code_inj hxs ht e')
          simp [hne, wrapS (show Bd k by unfold Bd; omega)]
          refine ⟨q - 1, by omega, k + 1, _, _, by omega, ?_, rfl, rfl⟩
          rw [take_snoc hx]
          simp
          exact ⟨hn, fun e' => e e'.symm⟩
      · have hM' : T.node v l h ∉ M := by
          have : M.take k = M := List.take_of_length_le (by omega)
          rwa [this] at hn
        obtain ⟨c1, s1, m1, z1⟩ := post_in hc hM hML kl
        obtain ⟨c2, s2, m2, z2⟩ := post_in hc c1 m1 kh
        have hp : post (.node v l h) M = post h (post l M) ++ [.node v l h] := by rw [post, if_neg hM']
        obtain ⟨n1, o1, S1, q1, l1, p1⟩ := ihl M n o (Ent.box [eRows nl ord, eNds nl' (nds L), .i .i64 root] :: S) kl hM hML (hl.push _)
        obtain ⟨n2, o2, S2, q2, l2, p2⟩ := ihh (post l M) n1 o1 S1 kh c1 m1 l1
        have hbx : sget S1 S.length = some (.box [eRows nl ord, eNds nl' (nds L), .i .i64 root]) := p1 _ _ (by simp)
        simp [e57_r0, s57_r0]
        rw [wrap64 ⟨by omega, by omega⟩, iaD_nds' _ (by omega) (by rw [hpos]; exact hnd)]
        simp only [OX_some, nd_1, nd_2, faD_el, ldD_el, rdK_one, Nat.zero_add, nd, eB] at q1 q2 ⊢
        rw [q1]
        have hbx2 : sget S2 S.length = some (.box [eRows nl ord, eNds nl' (nds L), .i .i64 root]) := p2 _ _ hbx
        simp only [OX_some, hbx, ldE_box, rdK_lit3, rdK_one, List.getElem?_cons_succ, List.getElem?_cons_zero]
        rw [iaD_nds' _ (by omega) (by rw [hpos]; exact hnd)]
        simp only [OX_some, nd_1, nd_2, faD_el, ldD_el, rdK_one, Nat.zero_add, nd, q2]
        have hz : (post h (post l M)).length + 1 ≤ L.length := by
          have := post_in hc hM hML ht
          rw [hp] at this
          simpa using this.2.2.2
        obtain ⟨t, S3, q3, l3, p3, _, _⟩ := app_liv (k := 1) (n' := false) (xs := ((post h (post l M)).map (code L)).map fun n => [D.i .i64 n]) (ys := [[.i .i64 (code L (.node v l h))]]) (o' := .ro) (by simpa using l2) (by simp [maxLenD]; omega) (by simp)
        simp only [eInts] at q3 ⊢
        rw [q3]
        refine ⟨false, .tok t, ?_, .inr ⟨rfl, t, rfl, l3⟩, ((Pres.push _ _).trans p1).trans (p2.trans p3)⟩
        simp [eInts, hp])
    obtain ⟨r, S', e, ⟨n', o', rfl, h1, h2⟩⟩ := this
    exact ⟨n', o', S', e, h1, h2⟩

end Go.Proofs.YtjlmeikcfdanmaaGreatDoor.DE.V
