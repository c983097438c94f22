/- Appends. -/
import Derived.Test.YtlbfhddhojejfaaDoorRvH
set_option linter.all false
namespace Rv
open Go

section
variable {P : Program} {C : Ctx} {γ : Gam} {h : Heap} {w : World} {R : Type} {r : R}

theorem append_run {t ty e : TypeId} {i : TypeInfo} {z : Value} (ht : P.underlying t = some (.slice e)) (hi : P.info? e = some i) (hz : i.zero = some z) (hzs : z.cells.size = i.size) (hsz : 0 < i.size) (hb0 : 0 < i.bytes)
    {v : Value} {n : Nat} {xs : List Value} (hown : w.ownsRow 0 e i.size v n xs) {A : Option Addr} {m c : Nat} {news : List Value} (hl : news.length = m * i.size)
    (hnews : m = 0 ∨ ∃ a, A = some a ∧ ∀ j u, news[j]? = some u → w.cell? (a.add j) = some u) (h1 : ∀ u ∈ news, u.oneCell' = true) (hbytes : (n + m) * i.bytes ≤ 140737488355328) :
    ∃ v' w', (Builtin.append_ #[t, t] ty #[v, .slice A m c]).run P w = .ok v' w' ∧ w'.ownsRow 0 e i.size v' (n + m) (xs ++ news) ∧ w.grownBy w' v.ownBlock ∧ ∀ k, v'.ownBlock = some k → v.ownBlock = some k ∨ w.heap.size ≤ k := by
  have h63 : n + m ≤ 140737488355328 := Nat.le_trans (Nat.le_mul_of_pos_right _ hb0) hbytes
  have h63m : n + m ≤ maxLen := by simp only [maxLen]; omega
  have hlen : (xs ++ news).length = (n + m) * i.size := by rw [List.length_append, hown.1, hl, Nat.add_mul]
  have hgr : ∀ row, w.grownBy w row := fun row => ⟨rfl, rfl, rfl, Nat.le_refl _, fun _ _ _ => rfl⟩
  have grown : ∀ (old : Nat), old < n + m → ∀ (row : Option Nat),
      (w.drew.alloc (.cells (xs.toArray ++ news.toArray ++ Builtin.zeroCells z.cells (grownCap w (n + m) old e - (n + m))) e)).ownsRow 0 e i.size
        (.slice (some ⟨w.heap.size, 0, none⟩) (n + m) (grownCap w (n + m) old e)) (n + m) (xs ++ news) ∧
      w.grownBy (w.drew.alloc (.cells (xs.toArray ++ news.toArray ++ Builtin.zeroCells z.cells (grownCap w (n + m) old e - (n + m))) e)) row := by
    intro old ho row
    have hge := grownCap_ge w (n + m) old e
    have hcm : grownCap w (n + m) old e ≤ maxLen := grownCap_le_maxLen w (n + m) old e h63m
    refine ⟨⟨hlen, .inr ⟨w.heap.size, _, _, rfl, Nat.zero_le _, heap_alloc_new w.drew _, hge, hcm, ?_, ?_⟩⟩, ⟨rfl, rfl, rfl, by simp, fun k hk _ => Go.RowKit.Below.heap_alloc w.drew _ k hk⟩⟩
    · simp only [Array.size_append, List.size_toArray, size_zeroCells, hzs, hown.1, hl, ← Nat.add_mul]
      congr 1
      omega
    · simp only [Array.toList_append, List.append_assoc]
      rw [← List.append_assoc, ← hlen]
      exact List.take_left
  by_cases hm : m = 0
  · subst hm
    have hn0 : news = [] := List.eq_nil_of_length_eq_zero (by simpa using hl)
    subst hn0
    refine ⟨v, w, ?_, by simpa using hown, hgr _, fun k hk => .inl hk⟩
    have hfc : ∀ A, (Builtin.firstCells i.size 0 (.slice A 0 c)).run P w = .ok #[] w := by intro A; cases A <;> simp [Builtin.firstCells, loadCells, loadCellsFrom]
    rcases hown.2 with ⟨rfl, rfl⟩ | ⟨g, cap, cur, rfl, hbg, hg, hnc, hcm, hcs, htake⟩
    · simp [Builtin.append_, run_underlying ht, Go.sizeOf, typeInfo, hi, Builtin.lenOf, hfc]
    · simp [Builtin.append_, run_underlying ht, Go.sizeOf, typeInfo, hi, Builtin.lenOf, hfc, hnc, storeCells]
  · obtain ⟨a, hA, hnw⟩ := hnews.resolve_left hm
    subst hA
    clear hnews
    have hnews := hnw
    rcases hown.2 with ⟨rfl, rfl⟩ | ⟨g, cap, cur, rfl, hbg, hg, hnc, hcm, hcs, htake⟩
    · have hx : xs = [] := List.eq_nil_of_length_eq_zero (by simpa using hown.1)
      subst hx
      have hr := run_append_nil (P := P) w t ty e i z ht hi hz a m c news hl hnews (by omega) (by omega) (by have hb := hbytes; simp only [Nat.zero_add] at hb; omega)
      have hgw := grown 0 (by omega) (Value.ownBlock (.slice none 0 0))
      simp only [Nat.zero_add, List.nil_append, Array.empty_append] at hgw ⊢
      exact ⟨_, _, hr, hgw.1, hgw.2, fun k hk => .inr (by simp only [Value.ownBlock, Option.some.injEq] at hk; omega)⟩
    · by_cases hroom : n + m ≤ cap
      · obtain ⟨w', h2, h3, h4⟩ := run_append_fits (P := P) w 0 t ty e i i.size ht hi rfl g n cap xs hown a m c news hl hnews h1 hroom
        exact ⟨_, w', h2, h3, h4, fun k hk => .inl hk⟩
      · have holds : ∀ j u, xs[j]? = some u → w.cell? ((⟨g, 0, none⟩ : Addr).add j) = some u := hown.cells (g := g) rfl
        have hr := run_append_grow (P := P) w t ty e i z ht hi hz ⟨g, 0, none⟩ n cap xs hown.1 holds a m c news hl hnews (by omega) (by omega) (growslice_fits (by omega) hbytes)
        have hgw := grown cap (by omega) (Value.ownBlock (.slice (some ⟨g, 0, none⟩) n cap))
        exact ⟨_, _, hr, hgw.1, hgw.2, fun k hk => .inr (by simp only [Value.ownBlock, Option.some.injEq] at hk; omega)⟩

theorem RowR.snoc {ok : Nat → Prop} {t : Ty} {xs : List t.D} {cur ds : List Value} {x : t.D} (hr : RowR w ok t xs cur) (hl : cur.length = xs.length * t.size) (hd : Rd w ok t x ds) : RowR w ok t (xs ++ [x]) (cur ++ ds) := by
  have hlen := hd.length
  intro j y hj
  by_cases hjl : j < xs.length
  · rw [List.getElem?_append_left hjl] at hj
    have := hr j y hj
    have hjle : j * t.size + t.size ≤ cur.length := by
      rw [hl]
      calc j * t.size + t.size = (j + 1) * t.size := by rw [Nat.add_mul, Nat.one_mul]
        _ ≤ xs.length * t.size := Nat.mul_le_mul_right _ hjl
    rw [List.drop_append_of_le_length (by omega), List.take_append_of_le_length (by simp; omega)]
    exact this
  · rw [List.getElem?_append_right (by omega)] at hj
    have hj0 : j = xs.length := by
      have := (List.getElem?_eq_some_iff.1 hj).1
      simp at this; omega
    subst hj0
    simp at hj
    subst hj
    rw [← hl, List.drop_left, List.take_of_length_le (by omega)]
    exact hd

theorem RowR.append {ok : Nat → Prop} {t : Ty} {xs ys : List t.D} {cur news : List Value} (hr : RowR w ok t xs cur) (hl : cur.length = xs.length * t.size) (hr' : RowR w ok t ys news) (hl' : news.length = ys.length * t.size) : RowR w ok t (xs ++ ys) (cur ++ news) := by
  intro j y hj
  by_cases hjl : j < xs.length
  · rw [List.getElem?_append_left hjl] at hj
    have := hr j y hj
    have hjle : j * t.size + t.size ≤ cur.length := by
      rw [hl]
      calc j * t.size + t.size = (j + 1) * t.size := by rw [Nat.add_mul, Nat.one_mul]
        _ ≤ xs.length * t.size := Nat.mul_le_mul_right _ hjl
    rw [List.drop_append_of_le_length (by omega), List.take_append_of_le_length (by simp; omega)]
    exact this
  · rw [List.getElem?_append_right (by omega)] at hj
    have := hr' _ y hj
    have hle : cur.length ≤ j * t.size := by rw [hl]; exact Nat.mul_le_mul_right _ (by omega)
    have he : (cur ++ news).drop (j * t.size) = news.drop ((j - xs.length) * t.size) := by
      rw [List.drop_append, List.drop_of_length_le hle, List.nil_append, hl, ← Nat.sub_mul]
    rw [he]; exact this

theorem flat_gen {ok : Nat → Prop} {t : Ty} {ys : List t.D} {g o : Nat} (hx : ∀ i x, ys[i]? = some x → ∃ ds, Rd w ok t x ds ∧ ∀ j v, ds[j]? = some v → w.cell? ⟨g, o + i * t.size + j, none⟩ = some v) :
    ∀ m, m ≤ ys.length → ∃ news : List Value, news.length = m * t.size ∧ RowR w ok t (ys.take m) news ∧ (∀ u ∈ news, u.oneCell' = true) ∧ ∀ j u, news[j]? = some u → w.cell? ⟨g, o + j, none⟩ = some u
  | 0, _ => ⟨[], by simp, fun i x e => by simp at e, (fun u hu => by cases hu), fun j u e => by simp at e⟩
  | m + 1, hm => by
    obtain ⟨news, h1, h2, h3, h4⟩ := flat_gen hx m (by omega)
    obtain ⟨ds, h5, h6⟩ := hx m ys[m] (by simp)
    have hlen := h5.length
    refine ⟨news ++ ds, by rw [List.length_append, h1, hlen, Nat.add_mul, Nat.one_mul], ?_, fun u hu => ?_, fun j u e => ?_⟩
    · rw [List.take_succ_eq_append_getElem (by omega)]
      exact h2.snoc (by rw [h1]; congr 1; simp; omega) h5
    · rcases List.mem_append.1 hu with hu | hu
      · exact h3 u hu
      · exact h5.one u hu
    · by_cases hj : j < news.length
      · rw [List.getElem?_append_left hj] at e; exact h4 j u e
      · rw [List.getElem?_append_right (by omega)] at e
        have := h6 _ _ e
        rw [h1] at this
        rw [show o + j = o + m * t.size + (j - m * t.size) by omega]
        exact this

theorem flat {d : Dep} {t : Ty} {ys : List t.D} {v : Value} (hr : RdS C γ h w d t ys v) : ∃ A c news, v = .slice A ys.length c ∧ news.length = ys.length * t.size ∧ RowR w (okb C γ h none) t ys news ∧ (∀ u ∈ news, u.oneCell' = true) ∧
    (ys.length = 0 ∨ ∃ a, A = some a ∧ ∀ j u, news[j]? = some u → w.cell? (a.add j) = some u) := by
  obtain ⟨A, c, hA, hle, hx⟩ := hr
  cases ys with
  | nil => exact ⟨A, c, [], hA, by simp, (fun i x e => by simp at e), (fun u hu => by cases hu), .inl rfl⟩
  | cons y ys =>
    obtain ⟨g, o, ds0, rfl, _⟩ := hx 0 y rfl
    obtain ⟨news, h1, h2, h3, h4⟩ := flat_gen (w := w) (ok := okb C γ h none) (ys := y :: ys) (g := g) (o := o) (fun i x e => by
      obtain ⟨g', o', ds, hA', _, _, h5, h6⟩ := hx i x e
      simp only [Option.some.injEq, Addr.mk.injEq, and_true] at hA'
      obtain ⟨rfl, rfl⟩ := hA'
      exact ⟨ds, h5, h6⟩) _ (Nat.le_refl _)
    rw [List.take_length] at h2
    exact ⟨_, c, news, hA, h1, h2, h3, .inr ⟨⟨g, o, none⟩, rfl, fun j u e => by rw [add_eq]; exact h4 j u e⟩⟩

theorem castD_some {t t' : Ty} {xs : List t.D} {ys : List t'.D} (hc : castD t t' xs = some ys) : ∃ e : t = t', e ▸ xs = ys := by
  unfold castD at hc
  split at hc
  · rename_i e; exact ⟨e, by simpa using hc⟩
  · cases hc

/-- The row that is appended to. -/
theorem baseOf_sound (I : Inv C γ h w) {e : TypeId} {t : Ty} (hsz : 0 < t.size) {s : V1} {xs : List t.D} {k : Option Nat} (hb : baseOf h e t s = some (xs, k)) {v : Value} (hv : RepV1 C γ h w s v) :
    ∃ cs : List Value, w.ownsRow 0 e t.size v xs.length cs ∧ RowR w (okb C γ h none) t xs cs ∧
      ((k = none ∧ v.ownBlock = none) ∨ ∃ k0 en, k = some k0 ∧ h k0 = some en ∧ en.box.live ∧ en.box.isRow ∧ ((γ k0 = none ∧ v.ownBlock = none) ∨ ∃ g c, γ k0 = some (g, c) ∧ v.ownBlock = some g)) := by
  have own : ∀ {kk ver n : Nat} {e' : TypeId} {t' : Ty} {zs : List t'.D}, h.at kk ver = some (.row e' t' zs) → e' = e → ∀ (et : t' = t), n ≤ zs.length → OwnV (γ kk) n v →
      ∃ cs : List Value, w.ownsRow 0 e t.size v n cs ∧ RowR w (okb C γ h none) t ((et ▸ zs : List t.D).take n) cs ∧ ∃ en, h kk = some en ∧ en.box.live ∧ en.box.isRow ∧ ((γ kk = none ∧ v.ownBlock = none) ∨ ∃ g c, γ kk = some (g, c) ∧ v.ownBlock = some g) := by
    intro kk ver n e' t' zs hat he' et hn ho
    subst et
    subst he'
    obtain ⟨en, hk, hve, hbox⟩ := at_some hat
    have hb0 := I.box kk en hk
    rw [hbox] at hb0
    rcases hb0 with ⟨h0, hz⟩ | ⟨g, c, cur, hγ, hbl, hxc, hcm, hcs, hszt, hr⟩
    · rw [h0] at ho
      obtain ⟨rfl, rfl⟩ := ho
      exact ⟨[], World.ownsRow_nil w 0 _ _, fun i x e => by simp at e, en, hk, by rw [hbox]; trivial, by rw [hbox]; trivial, .inl ⟨h0, rfl⟩⟩
    · rw [hγ] at ho
      rw [show v = _ from ho]
      refine ⟨cur.toList.take (n * t'.size), ⟨(by rw [List.length_take, Array.length_toList, hcs]; exact Nat.min_eq_left (Nat.mul_le_mul_right _ (Nat.le_trans hn hxc))), .inr ⟨g, c, cur, rfl, Nat.zero_le _, hbl, Nat.le_trans hn hxc, hcm, hcs, rfl⟩⟩, fun j x hj => ?_, en, hk, by rw [hbox]; trivial, by rw [hbox]; trivial, .inr ⟨g, c, hγ, rfl⟩⟩
      rw [List.getElem?_take] at hj
      split at hj
      · rename_i hjn
        have := hr j x hj
        have he : ((cur.toList.take (n * t'.size)).drop (j * t'.size)).take t'.size = (cur.toList.drop (j * t'.size)).take t'.size := by
          rw [List.drop_take, List.take_take, Nat.min_eq_left]
          rw [← Nat.sub_mul]
          calc t'.size = 1 * t'.size := by rw [Nat.one_mul]
            _ ≤ (n - j) * t'.size := Nat.mul_le_mul_right _ (by omega)
        rw [he]; exact this
      · cases hj
  unfold baseOf at hb
  split at hb
  · simp only [Option.some.injEq, Prod.mk.injEq] at hb
    obtain ⟨rfl, rfl⟩ := hb
    rw [show v = _ from hv]
    exact ⟨[], World.ownsRow_nil w 0 _ _, fun i x e => by simp at e, .inl ⟨rfl, rfl⟩⟩
  · rename_i kk ver
    split at hb
    · rename_i e' t' zs hat
      split at hb
      · rename_i he'
        simp only [Option.map_eq_some_iff, Prod.mk.injEq] at hb
        obtain ⟨ys, hc, rfl, rfl⟩ := hb
        obtain ⟨et, hys⟩ := castD_some hc
        obtain ⟨en, hk, hve, hbox⟩ := at_some hat
        have ho := hv.2.get hk hve zs.length (by rw [hbox]; rfl)
        obtain ⟨cs, h1, h2, h3⟩ := own hat he' et (Nat.le_refl _) ho
        subst et
        simp only at hys
        subst hys
        rw [List.take_length] at h2
        exact ⟨cs, h1, h2, .inr ⟨kk, h3.choose, rfl, h3.choose_spec⟩⟩
      · cases hb
    · cases hb
  · rename_i kk ver n
    split at hb
    · rename_i e' t' zs hat
      split at hb
      · rename_i he'
        simp only [Option.map_eq_some_iff, Prod.mk.injEq] at hb
        obtain ⟨ys, hc, rfl, rfl⟩ := hb
        obtain ⟨et, hys⟩ := castD_some hc
        obtain ⟨en, hk, hve, hbox⟩ := at_some hat
        obtain ⟨hn, ho⟩ := hv.2.get hk hve zs.length (by rw [hbox]; rfl)
        obtain ⟨cs, h1, h2, h3⟩ := own hat he' et hn ho
        subst et
        simp only at hys
        subst hys
        refine ⟨cs, ?_, h2, .inr ⟨kk, h3.choose, rfl, h3.choose_spec⟩⟩
        rw [show (zs.take n).length = n by simp; omega]
        exact h1
      · cases hb
    · cases hb
  · cases hb

theorem RowR.of_take {ok : Nat → Prop} {t : Ty} {xs : List t.D} {cur : List Value} (hr : RowR w ok t xs (cur.take (xs.length * t.size))) : RowR w ok t xs cur := by
  intro j x hj
  have hjl : j < xs.length := (List.getElem?_eq_some_iff.1 hj).1
  have := hr j x hj
  have he : ((cur.take (xs.length * t.size)).drop (j * t.size)).take t.size = (cur.drop (j * t.size)).take t.size := by
    rw [List.drop_take, List.take_take, Nat.min_eq_left]
    rw [← Nat.sub_mul]
    calc t.size = 1 * t.size := by rw [Nat.one_mul]
      _ ≤ (xs.length - j) * t.size := Nat.mul_le_mul_right _ (by omega)
  rw [← he]; exact this

theorem moreOf_sound (I : Inv C γ h w) {t : Ty} {x : V1} {ys : List t.D} (hm : moreOf h t x = some ys) {v : Value} (hv : RepV1 C γ h w x v) : ∃ d, RdS C γ h w d t ys v := by
  unfold moreOf at hm
  split at hm
  · simp only [Option.some.injEq] at hm
    subst hm
    rw [show v = _ from hv]
    exact ⟨none, none, 0, by simp, by simp, fun i x e => by simp at e⟩
  · rename_i c _
    split at hm
    · rename_i rr hrr
      obtain ⟨et, hys⟩ := castD_some hm
      have h1 := rowOf_rd I hrr hv
      obtain ⟨t', zs⟩ := rr
      simp only at et hys h1
      subst et
      simp only at hys
      subst hys
      exact ⟨_, h1⟩
    · cases hm
  · cases hm

def goneUp (h : Heap) : Option Nat → List (Nat × En)
  | some k => [(k, (⟨h.next k, 0, .gone⟩ : En))]
  | none => []

def appHeap (h : Heap) (k : Option Nat) (KK : Nat) (b : Box) : Heap := (goneUp h k ++ [(KK, (⟨h.next KK, 0, b⟩ : En))]).foldl (fun h p => h.set p.1 p.2) h

theorem appHeap_new (h : Heap) (k : Option Nat) (KK : Nat) (b : Box) : appHeap h k KK b KK = some ⟨h.next KK, 0, b⟩ := by
  unfold appHeap
  rw [List.foldl_append]
  exact set_same _ _ _

theorem appHeap_gone (h : Heap) {k KK : Nat} (b : Box) (hne : k ≠ KK) : appHeap h (some k) KK b k = some ⟨h.next k, 0, .gone⟩ := by
  unfold appHeap goneUp
  simp only [List.cons_append, List.nil_append, List.foldl_cons, List.foldl_nil]
  rw [set_ne _ _ hne, set_same]

theorem appHeap_old (h : Heap) {k : Option Nat} {KK j : Nat} (b : Box) (hne : j ≠ KK) (hk : k ≠ some j) : appHeap h k KK b j = h j := by
  unfold appHeap
  rw [List.foldl_append]
  simp only [List.foldl_cons, List.foldl_nil]
  rw [set_ne _ _ hne]
  cases k with
  | none => rfl
  | some k0 => exact set_ne _ _ (fun e => hk (e ▸ rfl))

theorem append_step (I : Inv C γ h w) {k : Option Nat} {KK : Nat} {e : TypeId} {t : Ty} {zs : List t.D} {v v' : Value} {w' : World} (hgrow : w.grownBy w' v.ownBlock) (hblk : ∀ g, v'.ownBlock = some g → v.ownBlock = some g ∨ w.heap.size ≤ g)
    (hkey : (k = none ∧ v.ownBlock = none) ∨ ∃ k0 en, k = some k0 ∧ h k0 = some en ∧ en.box.live ∧ en.box.isRow ∧ ((γ k0 = none ∧ v.ownBlock = none) ∨ ∃ g c, γ k0 = some (g, c) ∧ v.ownBlock = some g))
    (V : Option (Nat × Nat)) (hV : ∀ g c, V = some (g, c) → v'.ownBlock = some g) :
    Trans C γ h w C (setG γ KK V) (appHeap h k KK (.row e t zs)) w' ∧ (BoxR C (setG γ KK V) (appHeap h k KK (.row e t zs)) w' KK (.row e t zs) → Inv C (setG γ KK V) (appHeap h k KK (.row e t zs)) w') := by
  have base : ∀ g, v.ownBlock = some g → ∃ k0 en c, k = some k0 ∧ h k0 = some en ∧ en.box.live ∧ en.box.isRow ∧ γ k0 = some (g, c) := by
    intro g hg
    rcases hkey with ⟨_, h0⟩ | ⟨k0, en, h1, h2, h3, h4, h5⟩
    · rw [h0] at hg; cases hg
    · rcases h5 with ⟨_, h5⟩ | ⟨g', c, h5, h6⟩
      · rw [h5] at hg; cases hg
      · rw [h6] at hg
        simp only [Option.some.injEq] at hg
        subst hg
        exact ⟨k0, en, c, h1, h2, h3, h4, h5⟩
  -- an old key's entry afterwards
  have after : ∀ j ee, h j = some ee → ∃ ee', appHeap h k KK (.row e t zs) j = some ee' ∧ (ee.ver < ee'.ver ∨ (j ≠ KK ∧ k ≠ some j ∧ ee' = ee)) := by
    intro j ee hj
    by_cases e1 : j = KK
    · subst e1; exact ⟨_, appHeap_new _ _ _ _, .inl (next_gt hj)⟩
    · by_cases e2 : k = some j
      · subst e2; exact ⟨_, appHeap_gone _ _ e1, .inl (next_gt hj)⟩
      · exact ⟨ee, by rw [appHeap_old _ _ e1 e2]; exact hj, .inr ⟨e1, e2, rfl⟩⟩
  have bump : ∀ j ee, h j = some ee → k = some j → ∃ ee', appHeap h k KK (.row e t zs) j = some ee' ∧ ee.ver < ee'.ver := by
    intro j ee hj hk
    obtain ⟨ee', h1, h2⟩ := after j ee hj
    exact ⟨ee', h1, h2.resolve_right fun h => h.2.1 hk⟩
  have other : ∀ j ee', appHeap h k KK (.row e t zs) j = some ee' → ee'.box.live → j ≠ KK → k ≠ some j ∧ h j = some ee' := by
    intro j ee' hj hl hne
    by_cases e2 : k = some j
    · subst e2
      rw [appHeap_gone _ _ hne] at hj
      simp only [Option.some.injEq] at hj
      subst hj
      exact hl.elim
    · rw [appHeap_old _ _ hne e2] at hj
      exact ⟨e2, hj⟩
  have T : Trans C γ h w C (setG γ KK V) (appHeap h k KK (.row e t zs)) w' := by
    refine ⟨hgrow.size, fun j ee hj => ?_, fun g hg hh => ?_, fun j ee' c g hj hl hγ hg => ?_, fun _ _ h => h, fun _ h => h⟩
    · obtain ⟨ee', h1, h2⟩ := after j ee hj
      refine ⟨ee', h1, h2.imp id fun ⟨e1, _, e3⟩ => ?_⟩
      subst e3
      exact ⟨rfl, setG_ne _ _ e1, Alike.refl _⟩
    · refine hgrow.block g hg fun hb => ?_
      obtain ⟨k0, en, c, h1, h2, h3, h4, h5⟩ := base g hb.symm
      obtain ⟨_, e', he', hv, _⟩ := hh k0 en c h2 h3 h5
      obtain ⟨ee', h6, h7⟩ := bump k0 en h2 h1
      rw [he'] at h6
      simp only [Option.some.injEq] at h6
      subst h6
      omega
    · by_cases e1 : j = KK
      · subst e1
        rw [setG_same] at hγ
        rcases hblk g (hV g c hγ) with hb | hb
        · obtain ⟨k0, en, c0, h1, h2, h3, h4, h5⟩ := base g hb
          exact ⟨k0, en, c0, h2, h3, h5, .inr (bump k0 en h2 h1)⟩
        · omega
      · rw [setG_ne _ _ e1] at hγ
        obtain ⟨_, h2⟩ := other j ee' hj hl e1
        exact ⟨j, ee', c, h2, hl, hγ, .inl rfl⟩
  refine ⟨T, fun hB => I.step ⟨hgrow.size, fun g hg hno => hgrow.block g hg fun hb => ?_, hgrow.os, hgrow.tape, hgrow.output⟩ T (fun j ee hj => ?_) (fun j j' ee ee' g c c' hj hl hj' hl' h1 h2 => ?_) (fun j ee g c hj hl h1 => ?_)⟩
  · obtain ⟨k0, en, c, h1, h2, h3, h4, h5⟩ := base g hb.symm
    exact hno (I.own k0 en g c h2 h3 h5)
  · by_cases e1 : j = KK
    · subst e1
      rw [appHeap_new] at hj
      simp only [Option.some.injEq] at hj
      subst hj
      exact hB
    · by_cases e2 : k = some j
      · subst e2
        rw [appHeap_gone _ _ e1] at hj
        simp only [Option.some.injEq] at hj
        subst hj
        trivial
      · rw [appHeap_old _ _ e1 e2] at hj
        refine BoxR.step T (I.box j ee hj) (setG_ne _ _ e1) fun hl g c hγ => hgrow.block g (key_lt I hj hl hγ) fun hb => ?_
        obtain ⟨k0, en, c0, h1, h2, h3, h4, h5⟩ := base g hb.symm
        exact e2 (by rw [h1, I.inj j k0 ee en g c c0 hj hl h2 h3 hγ h5])
  · have side : ∀ {j' ee' g c c'}, V = some (g, c) → h j' = some ee' → ee'.box.live → γ j' = some (g, c') → k ≠ some j' → False := by
      intro j' ee' g c c' hVg hj' hl' hγ' hk'
      rcases hblk g (hV g c hVg) with hb | hb
      · obtain ⟨k0, en, c0, h1, h2, h3, h4, h5⟩ := base g hb
        exact hk' (by rw [h1, I.inj j' k0 ee' en g c' c0 hj' hl' h2 h3 hγ' h5])
      · have := key_lt I hj' hl' hγ'
        omega
    by_cases e1 : j = KK <;> by_cases e2 : j' = KK
    · rw [e1, e2]
    · subst e1
      rw [setG_same] at h1
      rw [setG_ne _ _ e2] at h2
      obtain ⟨h3, h4⟩ := other j' ee' hj' hl' e2
      exact (side h1 h4 hl' h2 h3).elim
    · subst e2
      rw [setG_same] at h2
      rw [setG_ne _ _ e1] at h1
      obtain ⟨h3, h4⟩ := other j ee hj hl e1
      exact (side h2 h4 hl h1 h3).elim
    · rw [setG_ne _ _ e1] at h1
      rw [setG_ne _ _ e2] at h2
      exact I.inj j j' ee ee' g c c' (other j ee hj hl e1).2 hl (other j' ee' hj' hl' e2).2 hl' h1 h2
  · by_cases e1 : j = KK
    · subst e1
      rw [setG_same] at h1
      rcases hblk g (hV g c h1) with hb | hb
      · obtain ⟨k0, en, c0, h1, h2, h3, h4, h5⟩ := base g hb
        exact I.own k0 en g c0 h2 h3 h5
      · exact I.new g (Nat.le_trans I.size hb)
    · rw [setG_ne _ _ e1] at h1
      exact I.own j ee g c (other j ee hj hl e1).2 hl h1

theorem append_ok {te : TypeId → Option TI} (hte : ∀ t i, te t = some i → TIok P t i) {st : St} {a : Act} (R' : Rel C γ w st a.tmps) {o : Oper} {sT : TypeId} {so xo : Operand} {argTypes : Array TypeId} {args : Array Operand} (ho : o.op = .call { callee := .builtin .append, args, argTypes }) (hargs : args.toList = [so, xo]) (hat : argTypes.toList = [sT, sT])
    {s x : V1} (hs : opd st so = some s) (hx : opd st xo = some x) {K : Dl → Option R} (he : appendK te st o.dst sT s x K = some r) : ∃ d, K d = some r ∧ OpOk P C w st a o d := by
  have I := R'.inv
  have hsr := (R'.opd hs).1
  have hxr := (R'.opd hx).1
  unfold appendK at he
  split at he
  · cases he
  · rename_i e hel
    split at he
    · cases he
    · rename_i ti hti
      split at he
      · cases he
      · rename_i t ht
        split at he
        · rename_i xs k ys hb hm
          obtain ⟨⟨hbytes, hb0, hs0⟩, he⟩ := if_some he
          refine ⟨_, he, fun next Q hn => ?_⟩
          have hi := hte _ _ hti
          have hsl : P.underlying sT = some (.slice e) := by
            cases h0 : te sT with
            | none => rw [h0] at hel; simp at hel
            | some i0 => rw [h0] at hel; exact (hte _ _ h0).elem e hel
          have hts := (hi.ty t ht).1
          obtain ⟨inf, hinf, hisz, hiby, z, hz, hzs, _⟩ := hi.info
          obtain ⟨cs, hown, hrow, hkey⟩ := baseOf_sound I (by omega) hb hsr
          obtain ⟨d, hrd⟩ := moreOf_sound I hm hxr
          obtain ⟨A, c, news, hxv, hnl, hnr, hn1, hnc⟩ := flat hrd
          rw [← hiby] at hbytes hb0
          rw [hts, ← hisz] at hown hnl
          obtain ⟨v', w', hrun, hown', hgrow, hblk⟩ := append_run (P := P) (t := sT) (ty := o.type) hsl hinf hz (by omega) (by omega) hb0 hown hnl hnc hn1 hbytes
          have hex : (execOp a.eval o).run P w = .ok (.value v') w' := by
            have e1 : args = #[so, xo] := Array.ext' hargs
            have e2 : argTypes = #[sT, sT] := Array.ext' hat
            subst e1; subst e2
            simp only [execOp, ho, resolve, invoke, builtin, Sem.run_bind, Sem.run_pure, Result.andThen_ok, List.map_toArray, List.map_cons, List.map_nil, hxv]
            rw [hrun]
            rfl
          have hV : ∀ (V : Option (Nat × Nat)) (_ : ∀ g c, V = some (g, c) → v'.ownBlock = some g) (_ : BoxR C (setG γ (dk o.dst) V) (appHeap st.h k (dk o.dst) (.row e t (xs ++ ys))) w' (dk o.dst) (.row e t (xs ++ ys))) (_ : OwnV V (xs ++ ys).length v') (_ : v'.oneCell' = true), next (a.put o.dst v') w' := by
            intro V hV hB hO h1'
            obtain ⟨T, hI⟩ := append_step (e := e) (t := t) (zs := xs ++ ys) I hgrow hblk hkey V hV
            refine hn (setG γ (dk o.dst) V) w' v' (R'.app (x := ⟨.v (.c (.own (dk o.dst) (st.h.next (dk o.dst)))), s.keys ++ x.keys ++ [dk o.dst], _⟩) T (hI hB) ⟨h1', now_self (appHeap_new _ _ _ _) rfl fun n hn' => ?_⟩)
            simp only [Box.len, Option.some.injEq] at hn'
            rw [setG_same, ← hn']
            exact hO
          refine wp_value hex ?_
          rcases hown'.2 with ⟨rfl, h0⟩ | ⟨g, cap, cur, rfl, hbg, hg, hnc', hcm, hcs, htake⟩
          · refine hV none (fun g c e => by cases e) (.inl ⟨setG_same _ _ _, ?_⟩) ⟨by simpa using h0, rfl⟩ rfl
            exact List.eq_nil_of_length_eq_zero (by simpa using h0)
          · refine hV (some (g, cap)) (fun g' c' e => by obtain ⟨rfl, rfl⟩ := some_pair e; rfl) ?_ (by simp [OwnV]) rfl
            obtain ⟨T, _⟩ := append_step (e := e) (t := t) (zs := xs ++ ys) (KK := dk o.dst) I hgrow hblk hkey (some (g, cap)) (fun g' c' e => by obtain ⟨rfl, rfl⟩ := some_pair e; rfl)
            refine .inr ⟨g, cap, cur, setG_same _ _ _, hg, by simpa using hnc', hcm, by rw [hcs, hts, hisz], by omega, ?_⟩
            refine RowR.of_take ?_
            rw [show (xs ++ ys).length * t.size = (xs.length + ys.length) * inf.size by rw [List.length_append, hts, hisz], htake]
            exact (hrow.append (by rw [hown.1, hts, hisz]) hnr (by rw [hnl, hts, hisz])).mono T.sz fun g' ho' hg' => T.okb (d := none) trivial ho' hg'
        · cases he

end
end Rv
