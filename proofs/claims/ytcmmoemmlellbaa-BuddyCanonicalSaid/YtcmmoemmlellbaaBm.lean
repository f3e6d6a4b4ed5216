/- The buddy system of a zone as plain mathematics: free lists as lists of integers, what it means that they are valid, that valid free lists are determined by the set of the free frames, and that joining a block, inserting a block and removing a block keep them valid. Conditions: none; no program in sight. -/
import Init
namespace Go.Proofs.Ytcmmoemmlellbaa

/-- the free lists: for each order the first frames -/
abbrev FL := Nat → List Int
/-- the parameters of a zone -/
structure Zh where
  nd : Int
  kd : Int
  st : Int
  ct : Int
  mn : Int
deriving DecidableEq

def Zh.ok (z : Zh) : Bool := decide (0 ≤ z.nd ∧ z.nd ≤ 3 ∧ (z.kd = 0 ∨ z.kd = 1) ∧ 0 ≤ z.st ∧ z.st ≤ 255 ∧ 1 ≤ z.ct ∧ z.st + z.ct ≤ 256 ∧ 0 ≤ z.mn ∧ z.mn ≤ z.ct)

/-- a block of order k at f is in the zone -/
def insB (z : Zh) (f : Int) (k : Nat) : Bool := decide (z.st ≤ f ∧ f % 2 ^ k = 0 ∧ f + 2 ^ k ≤ z.st + z.ct)

theorem insB_iff {z : Zh} {f : Int} {k : Nat} : insB z f k = true ↔ z.st ≤ f ∧ f % 2 ^ k = 0 ∧ f + 2 ^ k ≤ z.st + z.ct := by
  simp [insB]

/-- a frame is in a block -/
def inBlk (f b : Int) (k : Nat) : Prop := b ≤ f ∧ f < b + 2 ^ k

def free (L : FL) (f : Int) : Prop := ∃ k, k ≤ 4 ∧ ∃ b, b ∈ L k ∧ inBlk f b k

structure Valid (z : Zh) (L : FL) : Prop where
  ins : ∀ k, k ≤ 4 → ∀ b, b ∈ L k → insB z b k = true
  sorted : ∀ k, k ≤ 4 → (L k).Pairwise (· < ·)
  disj : ∀ j k, j ≤ 4 → k ≤ 4 → ∀ b c f, b ∈ L j → c ∈ L k → inBlk f b j → inBlk f c k → j = k ∧ b = c
  join : ∀ k, k < 4 → ∀ b, b ∈ L k → b + 2 ^ k ∈ L k → insB z b (k + 1) = true → False

theorem pow_cases {k : Nat} (hk : k ≤ 4) : ((2 : Int) ^ k = 1 ∧ k = 0) ∨ ((2 : Int) ^ k = 2 ∧ k = 1) ∨ ((2 : Int) ^ k = 4 ∧ k = 2) ∨ ((2 : Int) ^ k = 8 ∧ k = 3) ∨ ((2 : Int) ^ k = 16 ∧ k = 4) := by
  match k, hk with
  | 0, _ => simp
  | 1, _ => simp
  | 2, _ => simp
  | 3, _ => simp
  | 4, _ => simp

theorem pow_pos' (k : Nat) : (0 : Int) < 2 ^ k := Int.pow_pos (by omega)

/-- two aligned blocks that share a frame: the smaller lies in the greater -/
theorem nested {j k : Nat} (hk : k ≤ 4) (hj : j ≤ k) {b c f : Int} (hb : b % 2 ^ j = 0) (hc : c % 2 ^ k = 0) (h1 : inBlk f b j) (h2 : inBlk f c k) : c ≤ b ∧ b + 2 ^ j ≤ c + 2 ^ k := by
  unfold inBlk at *
  rcases pow_cases hk with ⟨e, rfl⟩ | ⟨e, rfl⟩ | ⟨e, rfl⟩ | ⟨e, rfl⟩ | ⟨e, rfl⟩ <;>
  rcases pow_cases (Nat.le_trans hj hk) with ⟨e', rfl⟩ | ⟨e', rfl⟩ | ⟨e', rfl⟩ | ⟨e', rfl⟩ | ⟨e', rfl⟩ <;>
  simp only [e, e'] at * <;> omega

theorem insB_sub {z : Zh} {j k : Nat} (hk : k ≤ 4) (hj : j ≤ k) {b c f : Int} (hb : b % 2 ^ j = 0) (h1 : inBlk f b j) (h2 : inBlk f c k) (hc : insB z c k = true) : insB z b j = true := by
  rw [insB_iff] at *
  have := nested hk hj hb hc.2.1 h1 h2
  exact ⟨by omega, hb, by omega⟩

/-- where all frames of an aligned block in the zone are free, a free block contains it -/
theorem Valid.cover {z : Zh} {L : FL} (v : Valid z L) : ∀ (m : Nat), m ≤ 4 → ∀ c : Int, insB z c m = true → (∀ f, inBlk f c m → free L f) → ∃ j, m ≤ j ∧ j ≤ 4 ∧ ∃ d, d ∈ L j ∧ d ≤ c ∧ c + 2 ^ m ≤ d + 2 ^ j := by
  intro m
  induction m with
  | zero =>
    intro _ c hc hf
    obtain ⟨j, hj, d, hd, h1, h2⟩ := hf c ⟨by omega, by simp; omega⟩
    exact ⟨j, Nat.zero_le _, hj, d, hd, h1, by simp; omega⟩
  | succ m ih =>
    intro hm c hc hf
    have hc' := insB_iff.1 hc
    have e : (2 : Int) ^ (m + 1) = 2 * 2 ^ m := by rw [Int.pow_succ]; omega
    have hp := pow_pos' m
    have hmod : c % 2 ^ m = 0 ∧ (c + 2 ^ m) % 2 ^ m = 0 := by
      rcases pow_cases (show m ≤ 4 by omega) with ⟨e', rfl⟩ | ⟨e', rfl⟩ | ⟨e', rfl⟩ | ⟨e', rfl⟩ | ⟨e', rfl⟩ <;> simp only [e, e'] at * <;> omega
    have h1 : insB z c m = true := insB_iff.2 ⟨hc'.1, hmod.1, by omega⟩
    have h2 : insB z (c + 2 ^ m) m = true := insB_iff.2 ⟨by omega, hmod.2, by omega⟩
    obtain ⟨j1, hj1, hj14, d1, hd1, ha1, hb1⟩ := ih (by omega) c h1 (fun f hf' => hf f ⟨hf'.1, by have := hf'.2; omega⟩)
    obtain ⟨j2, hj2, hj24, d2, hd2, ha2, hb2⟩ := ih (by omega) (c + 2 ^ m) h2 (fun f hf' => hf f ⟨by have := hf'.1; omega, by have := hf'.2; omega⟩)
    by_cases g1 : m + 1 ≤ j1
    · have := nested (f := c) hj14 g1 hc'.2.1 (insB_iff.1 (v.ins j1 hj14 d1 hd1)).2.1 ⟨by omega, by omega⟩ ⟨by omega, by omega⟩
      exact ⟨j1, g1, hj14, d1, hd1, this.1, this.2⟩
    by_cases g2 : m + 1 ≤ j2
    · have := nested (f := c + 2 ^ m) hj24 g2 hc'.2.1 (insB_iff.1 (v.ins j2 hj24 d2 hd2)).2.1 ⟨by omega, by omega⟩ ⟨by omega, by omega⟩
      exact ⟨j2, g2, hj24, d2, hd2, this.1, this.2⟩
    obtain rfl : j1 = m := by omega
    obtain rfl : j2 = j1 := by omega
    obtain rfl : d1 = c := by omega
    obtain rfl : d2 = d1 + 2 ^ j2 := by omega
    exact (v.join j2 (by omega) d1 hd1 hd2 hc).elim

theorem Valid.mem_iff {z : Zh} {L : FL} (v : Valid z L) {k : Nat} (hk : k ≤ 4) {b : Int} : b ∈ L k ↔ insB z b k = true ∧ (∀ f, inBlk f b k → free L f) ∧ ∀ j c, k < j → j ≤ 4 → insB z c j = true → inBlk b c j → ¬ ∀ f, inBlk f c j → free L f := by
  constructor
  · intro hb
    refine ⟨v.ins k hk b hb, fun f hf => ⟨k, hk, b, hb, hf⟩, fun j c hkj hj hc hbc hall => ?_⟩
    obtain ⟨j', hj', hj'4, d, hd, h1, h2⟩ := v.cover j hj c hc hall
    have := v.disj k j' hk hj'4 b d b hb hd ⟨by omega, by have := pow_pos' k; omega⟩ ⟨by have := hbc.1; omega, by have := hbc.2; omega⟩
    omega
  · rintro ⟨hi, hf, hmax⟩
    obtain ⟨j, hkj, hj, d, hd, h1, h2⟩ := v.cover k hk b hi hf
    have hp := pow_pos' k
    by_cases hjk : k = j
    · subst hjk
      obtain rfl : d = b := by omega
      exact hd
    · exact (hmax j d (by omega) hj (v.ins j hj d hd) ⟨h1, by omega⟩ (fun f hf' => ⟨j, hj, d, hd, hf'⟩)).elim

theorem sorted_ext : ∀ {a b : List Int}, a.Pairwise (· < ·) → b.Pairwise (· < ·) → (∀ x, x ∈ a ↔ x ∈ b) → a = b
  | [], [], _, _, _ => rfl
  | [], y :: b, _, _, h => by have := (h y).2 (by simp); simp at this
  | x :: a, [], _, _, h => by have := (h x).1 (by simp); simp at this
  | x :: a, y :: b, ha, hb, h => by
    obtain ⟨hx, ha'⟩ := List.pairwise_cons.1 ha
    obtain ⟨hy, hb'⟩ := List.pairwise_cons.1 hb
    have h1 : x = y := by
      have p := (h x).1 (by simp)
      have q := (h y).2 (by simp)
      rcases List.mem_cons.1 p with p | p
      · exact p
      rcases List.mem_cons.1 q with q | q
      · exact q.symm
      have := hx y q; have := hy x p; omega
    subst h1
    rw [sorted_ext ha' hb' (fun z => ?_)]
    have hz := h z
    constructor
    · intro m
      rcases List.mem_cons.1 (hz.1 (by simp [m])) with e | e
      · have := hx z m; omega
      · exact e
    · intro m
      rcases List.mem_cons.1 (hz.2 (by simp [m])) with e | e
      · have := hy z m; omega
      · exact e

/-- valid free lists are determined by the set of the free frames -/
theorem Valid.unique {z : Zh} {L M : FL} (v : Valid z L) (u : Valid z M) (h : ∀ f, free L f ↔ free M f) : ∀ k, k ≤ 4 → L k = M k := by
  intro k hk
  refine sorted_ext (v.sorted k hk) (u.sorted k hk) fun b => ?_
  rw [v.mem_iff hk, u.mem_iff hk]
  simp only [h]

/-! lists in ascending order: where an element belongs; to insert it there, to delete it there -/

def pos (l : List Int) (x : Int) : Nat := l.countP (· < x)
def insAt (l : List Int) (x : Int) : List Int := l.take (pos l x) ++ x :: l.drop (pos l x)
def delAt (l : List Int) (x : Int) : List Int := l.take (pos l x) ++ l.drop (pos l x + 1)

theorem pos_cons (y : Int) (l : List Int) (x : Int) : pos (y :: l) x = if y < x then pos l x + 1 else pos l x := by
  unfold pos; rw [List.countP_cons]; split <;> simp_all

theorem pos_zero {l : List Int} {x : Int} (h : ∀ y, y ∈ l → x ≤ y) : pos l x = 0 := by
  unfold pos; rw [List.countP_eq_zero]; intro y hy; have := h y hy; simp; omega

theorem insAt_cons {y : Int} {l : List Int} {x : Int} (h : (y :: l).Pairwise (· < ·)) : insAt (y :: l) x = if y < x then y :: insAt l x else x :: y :: l := by
  have hy := (List.pairwise_cons.1 h).1
  unfold insAt
  rw [pos_cons]
  split
  · simp
  · rw [pos_zero (fun z hz => by have := hy z hz; omega)]; simp

theorem delAt_cons {y : Int} {l : List Int} {x : Int} (h : (y :: l).Pairwise (· < ·)) : delAt (y :: l) x = if y < x then y :: delAt l x else l := by
  have hy := (List.pairwise_cons.1 h).1
  unfold delAt
  rw [pos_cons]
  split
  · simp
  · rw [pos_zero (fun z hz => by have := hy z hz; omega)]; simp

theorem mem_insAt {l : List Int} {x y : Int} : y ∈ insAt l x ↔ y = x ∨ y ∈ l := by
  unfold insAt
  have e : l.take (pos l x) ++ l.drop (pos l x) = l := List.take_append_drop _ _
  have : y ∈ l ↔ y ∈ l.take (pos l x) ∨ y ∈ l.drop (pos l x) := by rw [← List.mem_append, e]
  simp only [List.mem_append, List.mem_cons]
  rw [this]
  constructor
  · rintro (h | h | h)
    · exact .inr (.inl h)
    · exact .inl h
    · exact .inr (.inr h)
  · rintro (h | h | h)
    · exact .inr (.inl h)
    · exact .inl h
    · exact .inr (.inr h)

theorem mem_delAt : ∀ {l : List Int} {x y : Int}, l.Pairwise (· < ·) → x ∈ l → (y ∈ delAt l x ↔ y ∈ l ∧ y ≠ x)
  | [], _, _, _, h => by simp at h
  | z :: l, x, y, h, hx => by
    obtain ⟨hz, hl⟩ := List.pairwise_cons.1 h
    rw [delAt_cons h]
    rcases List.mem_cons.1 hx with rfl | hx
    · rw [if_neg (by omega)]
      constructor
      · intro hy; exact ⟨by simp [hy], by have := hz y hy; omega⟩
      · rintro ⟨hy, hne⟩; exact (List.mem_cons.1 hy).resolve_left hne
    · have hzx := hz x hx
      rw [if_pos hzx, List.mem_cons, mem_delAt hl hx, List.mem_cons]
      constructor
      · rintro (rfl | ⟨h1, h2⟩)
        · exact ⟨.inl rfl, by omega⟩
        · exact ⟨.inr h1, h2⟩
      · rintro ⟨rfl | h1, h2⟩
        · exact .inl rfl
        · exact .inr ⟨h1, h2⟩

theorem sorted_insAt : ∀ {l : List Int} {x : Int}, l.Pairwise (· < ·) → x ∉ l → (insAt l x).Pairwise (· < ·)
  | [], x, _, _ => by simp [insAt, pos]
  | y :: l, x, h, hx => by
    obtain ⟨hy, hl⟩ := List.pairwise_cons.1 h
    simp only [List.mem_cons, not_or] at hx
    rw [insAt_cons h]
    split
    · refine List.pairwise_cons.2 ⟨fun z hz => ?_, sorted_insAt hl hx.2⟩
      rcases mem_insAt.1 hz with rfl | hz
      · assumption
      · exact hy z hz
    · refine List.pairwise_cons.2 ⟨fun z hz => ?_, h⟩
      rcases List.mem_cons.1 hz with rfl | hz
      · omega
      · have := hy z hz; omega

theorem sorted_delAt {l : List Int} {x : Int} (h : l.Pairwise (· < ·)) : (delAt l x).Pairwise (· < ·) := by
  have : List.Sublist (delAt l x) l := by
    unfold delAt
    conv => rhs; rw [← List.take_append_drop (pos l x) l]
    refine List.Sublist.append (List.Sublist.refl _) ?_
    rw [← List.drop_drop]
    exact List.drop_sublist _ _
  exact List.Pairwise.sublist this h

def upd (L : FL) (o : Nat) (l : List Int) : FL := fun k => if k = o then l else L k
@[simp] theorem upd_same (L : FL) (o : Nat) (l : List Int) : upd L o l o = l := by simp [upd]
theorem upd_ne (L : FL) {o k : Nat} (l : List Int) (h : k ≠ o) : upd L o l k = L k := by simp [upd, h]

/-- the buddy of a block -/
def bud (f : Int) (k : Nat) : Int := if f % 2 ^ (k + 1) = 0 then f + 2 ^ k else f - 2 ^ k

theorem two_pow_succ (k : Nat) : (2 : Int) ^ (k + 1) = 2 * 2 ^ k := by rw [Int.pow_succ]; omega

theorem emod_half {f : Int} {k : Nat} (hk : k ≤ 4) (h : f % 2 ^ k = 0) : f % 2 ^ (k + 1) = 0 ∨ f % 2 ^ (k + 1) = 2 ^ k := by
  have e := two_pow_succ k
  rcases pow_cases hk with ⟨e', rfl⟩ | ⟨e', rfl⟩ | ⟨e', rfl⟩ | ⟨e', rfl⟩ | ⟨e', rfl⟩ <;> simp only [e, e'] at * <;> omega

/-- a block is inserted that shares no frame with the free ones, and whose buddy is not free (or their union not in the zone) -/
theorem Valid.insert {z : Zh} {L : FL} (v : Valid z L) {o : Nat} (ho : o ≤ 4) {f : Int} (hi : insB z f o = true) (hd : ∀ g, inBlk g f o → ¬ free L g)
    (hbud : o < 4 → bud f o ∈ L o → insB z (min f (bud f o)) (o + 1) = true → False) :
    Valid z (upd L o (insAt (L o) f)) ∧ ∀ g, free (upd L o (insAt (L o) f)) g ↔ free L g ∨ inBlk g f o := by
  have hp := pow_pos' o
  have hnew : ∀ k b, b ∈ upd L o (insAt (L o) f) k → (k = o ∧ b = f) ∨ b ∈ L k := by
    intro k b hb
    by_cases hk : k = o
    · subst hk; rw [upd_same] at hb; rcases mem_insAt.1 hb with h | h
      · exact .inl ⟨rfl, h⟩
      · exact .inr h
    · rw [upd_ne _ _ hk] at hb; exact .inr hb
  have hnot : f ∉ L o := fun h => hd f ⟨by omega, by omega⟩ ⟨o, ho, f, h, by omega, by omega⟩
  refine ⟨⟨?_, ?_, ?_, ?_⟩, ?_⟩
  · intro k hk b hb
    rcases hnew k b hb with ⟨rfl, rfl⟩ | h
    · exact hi
    · exact v.ins k hk b h
  · intro k hk
    by_cases h : k = o
    · subst h; rw [upd_same]; exact sorted_insAt (v.sorted k hk) hnot
    · rw [upd_ne _ _ h]; exact v.sorted k hk
  · intro j k hj hk b c g hb hc h1 h2
    rcases hnew j b hb with ⟨rfl, rfl⟩ | h3 <;> rcases hnew k c hc with ⟨rfl, rfl⟩ | h4
    · exact ⟨rfl, rfl⟩
    · exact (hd g h1 ⟨k, hk, c, h4, h2⟩).elim
    · exact (hd g h2 ⟨j, hj, b, h3, h1⟩).elim
    · exact v.disj j k hj hk b c g h3 h4 h1 h2
  · intro k hk b hb hc hu
    have e := two_pow_succ k
    have hpk := pow_pos' k
    rcases hnew k b hb with ⟨rfl, rfl⟩ | h3 <;> rcases hnew k (b + 2 ^ k) hc with ⟨h5, h4⟩ | h4
    · omega
    · have hbb : bud b k = b + 2 ^ k := by unfold bud; rw [if_pos (insB_iff.1 hu).2.1]
      exact hbud hk (by rw [hbb]; exact h4) (by rw [hbb, show min b (b + 2 ^ k) = b by omega]; exact hu)
    · subst h5
      have hm := (insB_iff.1 hu).2.1
      have hbb : bud f k = b := by
        unfold bud
        rw [if_neg, ← h4, Int.add_sub_cancel]
        rcases pow_cases ho with ⟨e', rfl⟩ | ⟨e', rfl⟩ | ⟨e', rfl⟩ | ⟨e', rfl⟩ | ⟨e', rfl⟩ <;> simp only [e, e'] at * <;> omega
      exact hbud hk (by rw [hbb]; exact h3) (by rw [hbb, show min f b = b by omega]; exact hu)
    · exact v.join k hk b h3 h4 hu
  · intro g
    constructor
    · rintro ⟨k, hk, b, hb, h⟩
      rcases hnew k b hb with ⟨rfl, rfl⟩ | h3
      · exact .inr h
      · exact .inl ⟨k, hk, b, h3, h⟩
    · rintro (⟨k, hk, b, hb, h⟩ | h)
      · refine ⟨k, hk, b, ?_, h⟩
        by_cases hk' : k = o
        · subst hk'; rw [upd_same]; exact mem_insAt.2 (.inr hb)
        · rw [upd_ne _ _ hk']; exact hb
      · exact ⟨o, ho, f, by rw [upd_same]; exact mem_insAt.2 (.inl rfl), h⟩

/-- a free block is taken out -/
theorem Valid.delete {z : Zh} {L : FL} (v : Valid z L) {o : Nat} (ho : o ≤ 4) {f : Int} (hf : f ∈ L o) :
    Valid z (upd L o (delAt (L o) f)) ∧ ∀ g, free (upd L o (delAt (L o) f)) g ↔ free L g ∧ ¬ inBlk g f o := by
  have hnew : ∀ k b, b ∈ upd L o (delAt (L o) f) k ↔ b ∈ L k ∧ ¬ (k = o ∧ b = f) := by
    intro k b
    by_cases hk : k = o
    · subst hk; rw [upd_same, mem_delAt (v.sorted k ho) hf]; simp
    · rw [upd_ne _ _ hk]; simp [hk]
  refine ⟨⟨?_, ?_, ?_, ?_⟩, ?_⟩
  · intro k hk b hb; exact v.ins k hk b ((hnew k b).1 hb).1
  · intro k hk
    by_cases h : k = o
    · subst h; rw [upd_same]; exact sorted_delAt (v.sorted k hk)
    · rw [upd_ne _ _ h]; exact v.sorted k hk
  · intro j k hj hk b c g hb hc h1 h2
    exact v.disj j k hj hk b c g ((hnew j b).1 hb).1 ((hnew k c).1 hc).1 h1 h2
  · intro k hk b hb hc hu
    exact v.join k hk b ((hnew k b).1 hb).1 ((hnew k _).1 hc).1 hu
  · intro g
    constructor
    · rintro ⟨k, hk, b, hb, h⟩
      obtain ⟨h1, h2⟩ := (hnew k b).1 hb
      exact ⟨⟨k, hk, b, h1, h⟩, fun h3 => h2 (v.disj k o hk ho b f g h1 hf h h3)⟩
    · rintro ⟨⟨k, hk, b, hb, h⟩, hn⟩
      refine ⟨k, hk, b, (hnew k b).2 ⟨hb, ?_⟩, h⟩
      rintro ⟨rfl, rfl⟩; exact hn h

/-- a block is put back, and joined with its buddy as long as that is free -/
def putM (z : Zh) : Nat → FL → Int → Nat → FL
  | 0, L, f, o => upd L o (insAt (L o) f)
  | n + 1, L, f, o =>
    if bud f o ∈ L o ∧ insB z (min f (bud f o)) (o + 1) = true then putM z n (upd L o (delAt (L o) (bud f o))) (min f (bud f o)) (o + 1)
    else upd L o (insAt (L o) f)

theorem bud_cases {f : Int} {k : Nat} (hk : k ≤ 4) (h : f % 2 ^ k = 0) : (bud f k = f + 2 ^ k ∧ min f (bud f k) = f ∧ f % 2 ^ (k + 1) = 0) ∨ (bud f k = f - 2 ^ k ∧ min f (bud f k) = f - 2 ^ k ∧ (f - 2 ^ k) % 2 ^ (k + 1) = 0) := by
  have e := two_pow_succ k
  have hp := pow_pos' k
  unfold bud
  rcases emod_half hk h with h1 | h1
  · left; rw [if_pos h1]; exact ⟨rfl, by omega, h1⟩
  · right; rw [if_neg (by omega)]; refine ⟨rfl, by omega, ?_⟩
    rcases pow_cases hk with ⟨e', rfl⟩ | ⟨e', rfl⟩ | ⟨e', rfl⟩ | ⟨e', rfl⟩ | ⟨e', rfl⟩ <;> simp only [e, e'] at * <;> omega

theorem Valid.put {z : Zh} : ∀ (n o : Nat), n + o = 4 → ∀ {L : FL}, Valid z L → ∀ {f : Int}, insB z f o = true → (∀ g, inBlk g f o → ¬ free L g) →
    Valid z (putM z n L f o) ∧ ∀ g, free (putM z n L f o) g ↔ free L g ∨ inBlk g f o
  | 0, o, hn, L, v, f, hi, hd => v.insert (by omega) hi hd (by omega)
  | n + 1, o, hn, L, v, f, hi, hd => by
    unfold putM
    split
    · rename_i hc
      obtain ⟨hb, hu⟩ := hc
      have e := two_pow_succ o
      have hp := pow_pos' o
      obtain ⟨v', hf'⟩ := v.delete (show o ≤ 4 by omega) hb
      have hcase := bud_cases (show o ≤ 4 by omega) (insB_iff.1 hi).2.1
      have hin : ∀ g, inBlk g (min f (bud f o)) (o + 1) ↔ inBlk g f o ∨ inBlk g (bud f o) o := by
        intro g; unfold inBlk; rw [e]
        rcases hcase with ⟨h1, h2, _⟩ | ⟨h1, h2, _⟩ <;> rw [h2, h1] <;> omega
      obtain ⟨v'', hf''⟩ := Valid.put n (o + 1) (by omega) v' hu (fun g hg hfree => by
        rw [hf'] at hfree
        rcases (hin g).1 hg with h | h
        · exact hd g h hfree.1
        · exact hfree.2 h)
      refine ⟨v'', fun g => ?_⟩
      rw [hf'', hf', hin]
      constructor
      · rintro (⟨h, _⟩ | h | h)
        · exact .inl h
        · exact .inr h
        · exact .inl ⟨o, by omega, _, hb, h⟩
      · rintro (h | h)
        · by_cases h1 : inBlk g (bud f o) o
          · exact .inr (.inr h1)
          · exact .inl ⟨h, h1⟩
        · exact .inr (.inl h)
    · rename_i hc
      exact v.insert (by omega) hi hd (fun _ h1 h2 => hc ⟨h1, h2⟩)

theorem sorted_len {a b : Int} : ∀ {l : List Int}, l.Pairwise (· < ·) → (∀ x, x ∈ l → a ≤ x ∧ x < b) → (l.length : Int) ≤ b - a ∨ l = []
  | [], _, _ => .inr rfl
  | [x], _, h => by have := h x (by simp); left; simp; omega
  | x :: y :: l, hs, h => by
    obtain ⟨hx, hs'⟩ := List.pairwise_cons.1 hs
    have hxy := hx y (by simp)
    have h0 := h x (by simp)
    left
    rcases sorted_len (a := x + 1) (b := b) hs' (fun z hz => ⟨by have := hx z hz; omega, (h z (by simp [hz])).2⟩) with h1 | h1
    · simp only [List.length_cons] at *; omega
    · simp at h1

theorem Valid.len {z : Zh} {L : FL} (v : Valid z L) (hz : z.ok = true) {k : Nat} (hk : k ≤ 4) : (L k).length ≤ 256 := by
  have hz' : 0 ≤ z.st ∧ z.st + z.ct ≤ 256 := by simp [Zh.ok] at hz; omega
  have hp := pow_pos' k
  rcases sorted_len (a := 0) (b := 256) (v.sorted k hk) (fun x hx => by have := insB_iff.1 (v.ins k hk x hx); omega) with h | h
  · omega
  · rw [h]; simp

theorem putM_join {z : Zh} {L : FL} {f : Int} {o : Nat} (ho : o < 4) (h : bud f o ∈ L o) (hu : insB z (min f (bud f o)) (o + 1) = true) :
    putM z (4 - o) L f o = putM z (4 - (o + 1)) (upd L o (delAt (L o) (bud f o))) (min f (bud f o)) (o + 1) := by
  rw [show 4 - o = (4 - (o + 1)) + 1 by omega, putM, if_pos ⟨h, hu⟩]
theorem putM_stop {z : Zh} {L : FL} {f : Int} {o : Nat} (h : o < 4 → bud f o ∈ L o → insB z (min f (bud f o)) (o + 1) = true → False) :
    putM z (4 - o) L f o = upd L o (insAt (L o) f) := by
  rcases Nat.lt_or_ge o 4 with h4 | h4
  · rw [show 4 - o = (4 - (o + 1)) + 1 by omega, putM, if_neg fun hc => h h4 hc.1 hc.2]
  · rw [show 4 - o = 0 by omega, putM]

theorem Valid.join_step {z : Zh} {L : FL} (v : Valid z L) {f : Int} {o : Nat} (ho : o < 4) (hi : insB z f o = true) (hd : ∀ g, inBlk g f o → ¬ free L g) (hb : bud f o ∈ L o) :
    Valid z (upd L o (delAt (L o) (bud f o))) ∧ ∀ g, inBlk g (min f (bud f o)) (o + 1) → ¬ free (upd L o (delAt (L o) (bud f o))) g := by
  have e := two_pow_succ o
  have hp := pow_pos' o
  obtain ⟨v', hf'⟩ := v.delete (show o ≤ 4 by omega) hb
  have hcase := bud_cases (show o ≤ 4 by omega) (insB_iff.1 hi).2.1
  have hin : ∀ g, inBlk g (min f (bud f o)) (o + 1) ↔ inBlk g f o ∨ inBlk g (bud f o) o := by
    intro g; unfold inBlk; rw [e]
    rcases hcase with ⟨h1, h2, _⟩ | ⟨h1, h2, _⟩ <;> rw [h2, h1] <;> omega
  refine ⟨v', fun g hg hfree => ?_⟩
  rw [hf'] at hfree
  rcases (hin g).1 hg with h | h
  · exact hd g h hfree.1
  · exact hfree.2 h

theorem empty_valid (z : Zh) : Valid z (fun _ => []) := ⟨by simp, by simp, by simp, by simp⟩
theorem free_empty (f : Int) : ¬ free (fun _ => []) f := by rintro ⟨k, _, b, hb, _⟩; simp at hb

/-- the frames from the start on are put back one by one -/
def newK (z : Zh) : Nat → FL
  | 0 => fun _ => []
  | n + 1 => putM z 4 (newK z n) (z.st + n) 0

theorem insB_zero {z : Zh} {f : Int} : insB z f 0 = true ↔ z.st ≤ f ∧ f < z.st + z.ct := by
  rw [insB_iff]; simp; omega
theorem inBlk_zero {f b : Int} : inBlk f b 0 ↔ f = b := by unfold inBlk; simp; omega

theorem newK_valid (z : Zh) : ∀ n : Nat, (n : Int) ≤ z.ct → Valid z (newK z n) ∧ ∀ g, free (newK z n) g ↔ z.st ≤ g ∧ g < z.st + n
  | 0, _ => ⟨empty_valid z, fun g => ⟨fun h => (free_empty g h).elim, fun h => by omega⟩⟩
  | n + 1, h => by
    obtain ⟨v, hf⟩ := newK_valid z n (by omega)
    obtain ⟨v', hf'⟩ := Valid.put 4 0 rfl v (f := z.st + n) (insB_zero.2 ⟨by omega, by omega⟩) (fun g hg => by rw [hf, inBlk_zero.1 hg]; omega)
    refine ⟨v', fun g => ?_⟩
    show free (putM z 4 (newK z n) (z.st + n) 0) g ↔ _
    rw [hf', hf, inBlk_zero]; omega

end Go.Proofs.Ytcmmoemmlellbaa
