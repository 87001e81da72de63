/- A library of this claim: rules that lead a call of a Go function to a formula over the heap alone, and laws on lists, maps and slices in the heap. No conditions. -/
import Derived.Test.YtobbagjpngkpkaaVcLogic
namespace Go.VC

/-- the block of a slice -/
def blkOf (a : Option Addr) (x : Nat) : Prop := ∃ b o, a = some ⟨b, o, none⟩ ∧ x = b
theorem not_blkOf_none {x : Nat} : ¬ blkOf none x := fun ⟨_, _, h, _⟩ => by cases h
theorem blkOf_some {b o x : Nat} : blkOf (some ⟨b, o, none⟩) x ↔ x = b := ⟨fun ⟨_, _, h, e⟩ => by cases h; exact e, fun e => ⟨b, o, rfl, e⟩⟩

/-- A slice: what its elements' cells hold. -/
def Sl (h : Heap) (e sz : Nat) (a : Option Addr) (n c : Nat) (vs : List Value) : Prop :=
  vs.length = n * sz ∧ ((a = none ∧ n = 0 ∧ c = 0) ∨
    ∃ b o cur, a = some ⟨b, o, none⟩ ∧ h[b]? = some (.cells (List.toArray cur) e (0, 0)) ∧ n ≤ c ∧ o + c * sz ≤ cur.length ∧ (cur.drop o).take (n * sz) = vs)

theorem Sl.nil (h : Heap) (e sz : Nat) : Sl h e sz none 0 0 [] := ⟨by simp, .inl ⟨rfl, rfl, rfl⟩⟩
theorem Sl.blk_lt {h : Heap} {e sz : Nat} {a : Option Addr} {n c : Nat} {vs : List Value} (s : Sl h e sz a n c vs) {x : Nat} (hx : blkOf a x) : x < h.size := by
  obtain ⟨b, o, rfl, rfl⟩ := hx
  rcases s.2 with ⟨q, _⟩ | ⟨b', o', cur, q, hb, _⟩
  · cases q
  · cases q; exact lt_of_get hb
theorem Sl.keep {h h' : Heap} {e sz : Nat} {a : Option Addr} {n c : Nat} {vs : List Value} (s : Sl h e sz a n c vs) (hk : ∀ x, x < h.size → blkOf a x → h'[x]? = h[x]?) : Sl h' e sz a n c vs := by
  refine ⟨s.1, ?_⟩
  rcases s.2 with q | ⟨b, o, cur, rfl, hb, q⟩
  · exact .inl q
  · exact .inr ⟨b, o, cur, rfl, by rw [hk b (lt_of_get hb) (blkOf_some.2 rfl)]; exact hb, q⟩
theorem Sl.ext {h h' : Heap} {e sz : Nat} {a : Option Addr} {n c : Nat} {vs : List Value} (s : Sl h e sz a n c vs) (x : Ext h h') : Sl h' e sz a n c vs := s.keep fun y hy _ => x.2 y hy
theorem Sl.ch {F : Nat → Prop} {h h' : Heap} {e sz : Nat} {a : Option Addr} {n c : Nat} {vs : List Value} (s : Sl h e sz a n c vs) (x : Ch F h h') (hf : ∀ y, blkOf a y → ¬ F y) : Sl h' e sz a n c vs := s.keep fun y hy hb => x.2 y hy (hf y hb)
theorem Sl.get {h : Heap} {e sz : Nat} {a : Option Addr} {n c : Nat} {vs : List Value} (s : Sl h e sz a n c vs) {i : Nat} {v : Value} (hv : vs[i]? = some v) : ∃ b o, a = some ⟨b, o, none⟩ ∧ cellH h b (o + i) = some v := by
  rcases s.2 with ⟨rfl, rfl, rfl⟩ | ⟨b, o, cur, rfl, hb, hn, hc, hq⟩
  · have := s.1
    simp at this; subst this; simp at hv
  · refine ⟨b, o, rfl, cell_lst hb ?_⟩
    rw [← hq, List.getElem?_take] at hv
    split at hv
    · rw [List.getElem?_drop] at hv; exact hv
    · cases hv
theorem Sl.first {h : Heap} {e sz : Nat} {a : Option Addr} {n c : Nat} {vs : List Value} (s : Sl h e sz a n c vs) : firstH h sz n (.slice a n c) = some vs := by
  rcases s.2 with ⟨rfl, rfl, rfl⟩ | ⟨b, o, cur, rfl, hb, hn, hc, hq⟩
  · have := s.1
    simp at this; subst this; rfl
  · simp only [firstH]
    have h1 : n * sz ≤ c * sz := Nat.mul_le_mul_right _ hn
    rw [ld_lst hb _ _ (by omega), hq]
theorem Sl.firstB {h : Heap} {e sz : Nat} {a : Option Addr} {n c : Nat} {vs : List Value} (s : Sl h e sz a n c vs) : lenH (.slice a n c) = some n ∧ firstH h sz n (.slice a n c) = some vs := ⟨rfl, s.first⟩
theorem Sl.le {h : Heap} {e sz : Nat} {a : Option Addr} {n c : Nat} {vs : List Value} (s : Sl h e sz a n c vs) : n ≤ c := by
  rcases s.2 with ⟨_, rfl, rfl⟩ | ⟨_, _, _, _, _, hn, _⟩
  · exact Nat.le_refl _
  · exact hn

theorem take_add' {α : Type} (l : List α) (i j : Nat) : l.take (i + j) = l.take i ++ (l.drop i).take j := by
  induction i generalizing l with
  | zero => simp
  | succ i ih => cases l with
    | nil => simp
    | cons a l => rw [Nat.succ_add]; simp [ih]

theorem Sl.append {h : Heap} {e sz by_ : Nat} {z : Value} {a : Option Addr} {n c m : Nat} {vs news : List Value} {K : Option Addr → Nat → Nat → Heap → Prop} (s : Sl h e sz a n c vs)
    (hm : news.length = m * sz) (h1 : ∀ v ∈ news, v.oneCell' = true) (hz : z.cells.size = sz) (hb : n + m ≤ 1099511627776 ∧ (n + m) * by_ ≤ 1099511627776 ∧ by_ ≤ 1048576)
    (H : ∀ a' c' h', Sl h' e sz a' (n + m) c' (vs ++ news) → Ch (blkOf a) h h' → (∀ x, blkOf a' x → blkOf a x ∨ (h.size ≤ x ∧ x < h'.size)) → K a' (n + m) c' h') : appH e sz by_ z a n c m news h K := by
  refine ⟨hb, fun hr => ?_, fun hg => ?_⟩
  · rcases s.2 with ⟨rfl, rfl, rfl⟩ | ⟨b, o, cur, rfl, hb, hn, hc, hq⟩
    · right
      refine ⟨rfl, H _ _ _ ?_ (Ch.refl _ _) fun x hx => .inl hx⟩
      obtain rfl : m = 0 := by omega
      refine ⟨?_, .inl ⟨rfl, rfl, rfl⟩⟩
      have h1 := s.1
      simp at h1 hm
      subst h1 hm; simp
    · left
      have h2 : (n + m) * sz ≤ c * sz := Nat.mul_le_mul_right _ hr
      rw [Nat.add_mul] at h2
      obtain ⟨h', q1, q2, q3, q4⟩ := st_ex (o := o + n * sz) news hb (by omega) h1
      refine ⟨b, o, h', rfl, q1, H _ _ _ ⟨?_, .inr ⟨b, o, _, rfl, q2, hr, ?_, ?_⟩⟩ ⟨by omega, fun x _ hx => q3 x fun ex => hx (blkOf_some.2 ex)⟩ fun x hx => .inl hx⟩
      · rw [List.length_append, s.1, hm, Nat.add_mul]
      · rw [spl_length (by omega)]; exact hc
      · rw [Nat.add_mul]
        have hl : vs.length = n * sz := s.1
        apply List.ext_getElem?
        intro i
        rw [List.getElem?_take, List.getElem?_drop, spl_get (by omega), List.getElem?_append, hl]
        by_cases hi : i < n * sz
        · rw [if_pos (by omega), if_neg (by omega), if_pos hi, ← hq, List.getElem?_take, if_pos hi, List.getElem?_drop]
        · rw [if_neg hi]
          by_cases hi2 : i < n * sz + m * sz
          · rw [if_pos hi2, if_pos (by omega)]
            congr 1; omega
          · rw [if_neg hi2, List.getElem?_eq_none (by omega)]
  · refine ⟨vs, s.first, fun cap hcap => ?_⟩
    have e1 : ((vs ++ news).toArray ++ Builtin.zeroCells z.cells (cap - (n + m))) = (vs ++ news ++ (Builtin.zeroCells z.cells (cap - (n + m))).toList).toArray := by
      apply Array.toList_inj.1; simp
    rw [e1]
    obtain ⟨p1, p2, p3⟩ := push_get (h := h) (o := .cells (vs ++ news ++ (Builtin.zeroCells z.cells (cap - (n + m))).toList).toArray e (0, 0)) rfl
    have hl : (vs ++ news).length = (n + m) * sz := by rw [List.length_append, s.1, hm, Nat.add_mul]
    refine H _ _ _ ⟨hl, .inr ⟨_, _, _, rfl, p1, hcap, ?_, ?_⟩⟩ p2.ch fun x hx => ?_
    · rw [List.length_append, hl, Array.length_toList, size_zeroCells, hz]
      have : cap * sz = (n + m) * sz + (cap - (n + m)) * sz := by rw [← Nat.add_mul]; congr 1; omega
      omega
    · rw [List.drop_zero, ← hl, List.take_left]
    · right; rw [blkOf_some] at hx; omega
end Go.VC
