/- What Refaults computes, and the program's memory while it replays. Conditions: none. -/
import Derived.Test.YtbalmmaoiebppaaVl
namespace Go.Proofs.Ytbalmmaoiebppaa
open Go.RowKit

/-- a reference: the cache, the evicted pages, the answers -/
def rfStep (s : Int) (q : List Int × List Int × List Int) (p : Int) : List Int × List Int × List Int :=
  if p ∈ q.1 then (q.1, q.2.1, q.2.2 ++ [-1])
  else if (q.1.length : Int) = s then (q.1.tail ++ [p], q.2.1 ++ [q.1.headD 0], q.2.2 ++ [dst q.2.1 p])
  else (q.1 ++ [p], q.2.1, q.2.2 ++ [dst q.2.1 p])
def rfS (s : Int) (xs : List Int) : List Int × List Int × List Int := xs.foldl (rfStep s) ([], [], [])
theorem rfS_step {s : Int} {xs : List Int} {k : Nat} (h : k < xs.length) : rfS s (xs.take (k + 1)) = rfStep s (rfS s (xs.take k)) (xs.getD k 0) := by
  rw [take_snoc h]; unfold rfS; rw [List.foldl_append]; rfl
theorem rfS_snoc (s : Int) (xs : List Int) (p : Int) : rfS s (xs ++ [p]) = rfStep s (rfS s xs) p := by unfold rfS; rw [List.foldl_append]; rfl

theorem snoc_ind {P : List Int → Prop} (h0 : P []) (h1 : ∀ l x, P l → P (l ++ [x])) (l : List Int) : P l := by
  have : ∀ m : List Int, P m.reverse := fun m => by
    induction m with
    | nil => exact h0
    | cons a m ih => rw [List.reverse_cons]; exact h1 _ _ ih
  have := this l.reverse
  rwa [List.reverse_reverse] at this

/-- the sizes, and where the pages come from -/
theorem rfS_inv (s : Int) (hs : 1 ≤ s) (xs : List Int) : ((rfS s xs).1.length : Int) ≤ s ∧ (rfS s xs).1.length ≤ xs.length ∧ (rfS s xs).2.1.length ≤ xs.length ∧ (rfS s xs).2.2.length = xs.length ∧ (∀ x ∈ (rfS s xs).1, x ∈ xs) := by
  induction xs using snoc_ind with
  | h0 => simp [rfS]; omega
  | h1 l p ih =>
    rw [rfS_snoc]
    obtain ⟨h1, h2, h3, h4, h5⟩ := ih
    generalize rfS s l = q at *
    obtain ⟨c, g, o⟩ := q
    simp only at h1 h2 h3 h4 h5
    unfold rfStep
    simp only
    split
    · refine ⟨h1, by simp; omega, by simp; omega, by simp; omega, fun x hx => by simp; exact .inl (h5 x hx)⟩
    · split
      · rename_i hc
        cases c with
        | nil => simp at hc; omega
        | cons a c =>
          simp only [List.length_cons, List.tail_cons, List.length_append, List.length_nil] at *
          refine ⟨by omega, by omega, by omega, by omega, fun x hx => ?_⟩
          simp at hx
          rcases hx with hx | hx
          · simp; exact .inl (h5 x (by simp; exact .inr hx))
          · simp; exact .inr hx
      · rename_i hc
        refine ⟨by simp; omega, by simp; omega, by simp; omega, by simp; omega, fun x hx => ?_⟩
        simp at hx ⊢
        rcases hx with hx | hx
        · exact .inl (h5 x hx)
        · exact .inr hx

/-- the pages of the cache are different ones -/
theorem rfS_nodup (s : Int) (xs : List Int) : (rfS s xs).1.Nodup := by
  induction xs using snoc_ind with
  | h0 => simp [rfS]
  | h1 l p ih =>
    rw [rfS_snoc]
    generalize rfS s l = q at *
    obtain ⟨c, g, o⟩ := q
    unfold rfStep
    simp only at *
    split
    · exact ih
    · rename_i hp
      have hap : ∀ d : List Int, d.Nodup → (∀ x ∈ d, x ∈ c) → (d ++ [p]).Nodup := fun d hd hdc => by
        rw [List.nodup_append]
        exact ⟨hd, by simp, fun a ha b hb e => by simp at hb; subst hb; subst e; exact hp (hdc _ ha)⟩
      split
      · exact hap _ (List.Nodup.sublist (List.tail_sublist _) ih) fun x hx => List.mem_of_mem_tail hx
      · exact hap _ ih fun x hx => hx

theorem Keeps.cell' {P : Nat → Prop} {w w' : World} {base b : Nat} {g : Option Nat} {v : Value} {xs : List Int} {j : Nat} (h : Keeps P w w') (ho : own w base g v xs) (hg : g = some b) (hp : P b → False) : w'.cell? ⟨b, j, none⟩ = w.cell? ⟨b, j, none⟩ := by
  subst hg
  unfold World.cell?
  simp only [h.block b ho.lt.2 hp]

theorem own.new {w : World} {base b : Nat} {g : Option Nat} {v : Value} {xs : List Int} (h : own w base g v xs) (e : g = some b) {k : Option Nat} (hk : k = some b ∨ w.heap.size ≤ b) (hn : k ≠ some b) : False := by
  subst e
  rcases hk with h1 | h1
  · exact hn h1
  · have := h.lt; omega

/-- the memory of the program's Refaults -/
structure RM (w : World) (base bx bm bh nm nh : Nat) (vq vo : Value) (gq go : Option Nat) (c g out : List Int) (p : Int → Bool) : Prop where
  hist : hist w base bx bm nm g
  hb : base ≤ bh
  ne : bh ≠ bm
  held : mapB w bh nh p
  oq : own w base gq vq c
  oo : own w base go vo out
  apart : ∀ b, gq = some b → go ≠ some b

section
variable {w w' : World} {base bx bm bh nm nh : Nat} {vq vo v' : Value} {gq go g' : Option Nat} {c g out xs : List Int} {p : Int → Bool}
theorem RM.qx (h : RM w base bx bm bh nm nh vq vo gq go c g out p) : gq ≠ some bx := h.oq.ne_box h.hist.box (by decide)
theorem RM.ox (h : RM w base bx bm bh nm nh vq vo gq go c g out p) : go ≠ some bx := h.oo.ne_box h.hist.box (by decide)
theorem RM.qm (h : RM w base bx bm bh nm nh vq vo gq go c g out p) : gq ≠ some bm := by obtain ⟨es, c, h1⟩ := h.hist.map.obj; exact h.oq.ne_map h1
theorem RM.om (h : RM w base bx bm bh nm nh vq vo gq go c g out p) : go ≠ some bm := by obtain ⟨es, c, h1⟩ := h.hist.map.obj; exact h.oo.ne_map h1
theorem RM.qh (h : RM w base bx bm bh nm nh vq vo gq go c g out p) : gq ≠ some bh := by obtain ⟨es, c, h1⟩ := h.held.obj; exact h.oq.ne_map h1
theorem RM.oh (h : RM w base bx bm bh nm nh vq vo gq go c g out p) : go ≠ some bh := by obtain ⟨es, c, h1⟩ := h.held.obj; exact h.oo.ne_map h1
theorem RM.xh (h : RM w base bx bm bh nm nh vq vo gq go c g out p) : bx ≠ bh := fun e => by
  obtain ⟨es, c, h1⟩ := h.held.obj
  have h2 := h.hist.box
  rw [e, h1] at h2; cases h2

theorem RM.below (h : RM w base bx bm bh nm nh vq vo gq go c g out p) (hb : Below w.heap.size w w') : RM w' base bx bm bh nm nh vq vo gq go c g out p :=
  ⟨h.hist.keeps (P := fun _ => False) (Keeps.of_below hb) id id, h.hb, h.ne, h.held.keeps (P := fun _ => False) (Keeps.of_below hb) id, h.oq.keeps (P := fun _ => False) (Keeps.of_below hb) (fun _ _ => id), h.oo.keeps (P := fun _ => False) (Keeps.of_below hb) (fun _ _ => id), h.apart⟩
theorem RM.said (h : RM w base bx bm bh nm nh vq vo gq go c g out p) (hk : Keeps (fun k => go = some k) w w') (ho : own w' base g' v' xs) (hg : ∀ b, g' = some b → go = some b ∨ w.heap.size ≤ b) : RM w' base bx bm bh nm nh vq v' gq g' c g xs p :=
  ⟨h.hist.keeps hk (fun e => h.ox e) (fun e => h.om e), h.hb, h.ne, h.held.keeps hk (fun e => h.oh e), h.oq.keeps hk h.apart, ho, fun b hb e => by
    rcases hg b e with h1 | h1
    · exact h.apart b hb h1
    · have := h.oq; rw [hb] at this; have := this.lt; omega⟩
theorem RM.queue (h : RM w base bx bm bh nm nh vq vo gq go c g out p) (hk : Keeps (fun k => gq = some k) w w') (ho : own w' base g' v' xs) (hg : ∀ b, g' = some b → gq = some b ∨ w.heap.size ≤ b) : RM w' base bx bm bh nm nh v' vo g' go xs g out p :=
  ⟨h.hist.keeps hk (fun e => h.qx e) (fun e => h.qm e), h.hb, h.ne, h.held.keeps hk (fun e => h.qh e), ho, h.oo.keeps hk (fun b hb e => h.apart b e hb), fun b hb e => by
    rcases hg b hb with h1 | h1
    · exact h.apart b h1 e
    · have := h.oo; rw [e] at this; have := this.lt; omega⟩
theorem RM.set {nh' : Nat} {p' : Int → Bool} (h : RM w base bx bm bh nm nh vq vo gq go c g out p) (hk : Keeps (· = bh) w w') (hm : mapB w' bh nh' p') : RM w' base bx bm bh nm nh' vq vo gq go c g out p' :=
  ⟨h.hist.keeps hk h.xh (fun e => h.ne e.symm), h.hb, h.ne, hm, h.oq.keeps hk (fun b hb e => h.qh (e ▸ hb)), h.oo.keeps hk (fun b hb e => h.oh (e ▸ hb)), h.apart⟩
theorem RM.evicted {nm' : Nat} {g1 : List Int} (h : RM w base bx bm bh nm nh vq vo gq go c g out p) (hk : Keeps (fun k => k = bx ∨ k = bm) w w') (hm : Go.Proofs.Ytbalmmaoiebppaa.hist w' base bx bm nm' g1) : RM w' base bx bm bh nm' nh vq vo gq go c g1 out p :=
  ⟨hm, h.hb, h.ne, h.held.keeps hk (fun e => e.elim (fun e => h.xh e.symm) h.ne), h.oq.keeps hk (fun b hb e => e.elim (fun e => h.qx (e ▸ hb)) (fun e => h.qm (e ▸ hb))), h.oo.keeps hk (fun b hb e => e.elim (fun e => h.ox (e ▸ hb)) (fun e => h.om (e ▸ hb))), h.apart⟩
/-- all its blocks lie from base on -/
theorem RM.low (h : RM w base bx bm bh nm nh vq vo gq go c g out p) : ∀ k, k < base → ¬ (k = bx ∨ k = bm ∨ k = bh ∨ gq = some k ∨ go = some k) := fun k hk => by
  rintro (rfl | rfl | rfl | e | e)
  · have := h.hist.hx; omega
  · have := h.hist.hm; omega
  · have := h.hb; omega
  · have := h.oq; rw [e] at this; have := this.lt; omega
  · have := h.oo; rw [e] at this; have := this.lt; omega
end

theorem rm_start (w : World) : RM (((w.alloc (.map #[] 0)).alloc (.cells #[.int .i64 0, .map (some w.heap.size)] 47)).alloc (.map #[] 0)) w.heap.size (w.heap.size + 1) w.heap.size (w.heap.size + 1 + 1) 0 0 (.slice none 0 0) (.slice none 0 0) none none [] [] [] (fun _ => false) := by
  have h1 := mapI_made w
  obtain ⟨w1, hw1⟩ : ∃ w1, w1 = w.alloc (.map #[] 0) := ⟨_, rfl⟩
  have s1 : w1.heap.size = w.heap.size + 1 := by rw [hw1]; simp
  rw [← hw1] at h1
  rw [← hw1]
  obtain ⟨w2, hw2⟩ : ∃ w2, w2 = w1.alloc (.cells #[.int .i64 0, .map (some w.heap.size)] 47) := ⟨_, rfl⟩
  have h2 := heap_alloc_new w1 (.cells #[.int .i64 0, .map (some w.heap.size)] 47)
  have b2 : Below w1.heap.size w1 w2 := by rw [hw2]; exact (Below.refl _ w1).alloc (Nat.le_refl _) _
  have s2 : w2.heap.size = w.heap.size + 1 + 1 := by rw [hw2, ← s1]; simp
  rw [← hw2, s1] at h2
  rw [← hw2]
  have h3 := mapB_made w2
  have b3 : Below w2.heap.size w2 (w2.alloc (.map #[] 0)) := (Below.refl _ w2).alloc (Nat.le_refl _) _
  rw [s2] at h3
  have b2' : Below w1.heap.size w1 w2 := b2
  refine ⟨⟨by omega, by omega, ?_, ?_⟩, by omega, by omega, h3, ⟨rfl, _, rfl⟩, ⟨rfl, _, rfl⟩, fun b hb => by cases hb⟩
  · exact (b3.block _ (by omega)).trans h2
  · rw [lst_nil]
    exact (h1.keeps (P := fun _ => False) (Keeps.of_below b2) id).keeps (P := fun _ => False) (Keeps.of_below b3) id
theorem rm_start_below (w : World) (t : TypeId) : Below w.heap.size w (((w.alloc (.map #[] 0)).alloc (.cells #[.int .i64 0, .map (some w.heap.size)] t)).alloc (.map #[] 0)) := by
  have h1 : Below w.heap.size w (w.alloc (.map #[] 0)) := (Below.refl _ w).alloc (Nat.le_refl _) _
  have h2 := h1.alloc h1.size (.cells #[.int .i64 0, .map (some w.heap.size)] t)
  exact h2.alloc h2.size _
end Go.Proofs.Ytbalmmaoiebppaa
