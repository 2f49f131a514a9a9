import Derived.Lib.MapLaws
/- Names: texts as rows of runes; plain laws. -/
set_option linter.unusedVariables false
set_option linter.unusedSimpArgs false
namespace Go.AW.Nam
open Go Go.Lib

section
variable {n b0 b1 b2 b3 : Nat}
theorem dec2 (h : b0 / 32 = 6) (h1 : 1 < n) (h2 : b1 / 64 = 2) (h3 : 128 ≤ b0 % 32 * 64 + b1 % 64) : decodeN n b0 b1 b2 b3 = (b0 % 32 * 64 + b1 % 64, 2) := by
  unfold decodeN
  rw [if_neg (by omega), if_pos ⟨h, h1, h2⟩, if_pos h3]
theorem dec3 (h : b0 / 16 = 14) (h1 : 2 < n) (h2 : b1 / 64 = 2) (h3 : b2 / 64 = 2) (h4 : 2048 ≤ b0 % 16 * 4096 + b1 % 64 * 64 + b2 % 64)
    (h5 : b0 % 16 * 4096 + b1 % 64 * 64 + b2 % 64 < 55296 ∨ 57344 ≤ b0 % 16 * 4096 + b1 % 64 * 64 + b2 % 64) : decodeN n b0 b1 b2 b3 = (b0 % 16 * 4096 + b1 % 64 * 64 + b2 % 64, 3) := by
  unfold decodeN
  rw [if_neg (by omega), if_neg (by omega), if_pos ⟨h, ⟨by omega, h2⟩, h1, h3⟩, if_pos ⟨h4, by omega⟩]
theorem dec4 (h : b0 / 8 = 30) (h1 : 3 < n) (h2 : b1 / 64 = 2) (h3 : b2 / 64 = 2) (h4 : b3 / 64 = 2) (h5 : 65536 ≤ b0 % 8 * 262144 + b1 % 64 * 4096 + b2 % 64 * 64 + b3 % 64)
    (h6 : b0 % 8 * 262144 + b1 % 64 * 4096 + b2 % 64 * 64 + b3 % 64 ≤ 1114111) : decodeN n b0 b1 b2 b3 = (b0 % 8 * 262144 + b1 % 64 * 4096 + b2 % 64 * 64 + b3 % 64, 4) := by
  unfold decodeN
  rw [if_neg (by omega), if_neg (by omega), if_neg (by omega), if_pos ⟨h, ⟨by omega, h2⟩, ⟨by omega, h3⟩, h1, h4⟩, if_pos ⟨h5, by omega⟩]
end

/-- What a text begins with, as long as its bytes are there, however it goes on. -/
theorem likeN (n n' b0 b1 b2 b3 c1 c2 c3 : Nat)
    (h : 1 < n ∧ b1 / 64 = 2 → (1 < n' ∧ c1 = b1) ∨ (decodeN n b0 b1 b2 b3).2 ≤ 1) (h2 : 2 < n ∧ b2 / 64 = 2 → (2 < n' ∧ c2 = b2) ∨ (decodeN n b0 b1 b2 b3).2 ≤ 2) (h3 : 3 < n ∧ b3 / 64 = 2 → (3 < n' ∧ c3 = b3) ∨ (decodeN n b0 b1 b2 b3).2 ≤ 3)
    (g : 1 < n' ∧ c1 / 64 = 2 → 1 < n ∧ c1 = b1) (g2 : 2 < n' ∧ c2 / 64 = 2 → 2 < n ∧ c2 = b2) (g3 : 3 < n' ∧ c3 / 64 = 2 → 3 < n ∧ c3 = b3) : decodeN n' b0 c1 c2 c3 = decodeN n b0 b1 b2 b3 := by
  rcases decodeN_shape n b0 b1 b2 b3 with ⟨a, e⟩ | ⟨a1, a2, a3, a4, e⟩ | ⟨a1, a2, a3, a4, a5, a6, e⟩ | ⟨a1, a2, a3, a4, a5, a6, a7, e⟩ | e
  · rw [e, decodeN_ascii _ _ _ _ _ a]
  · rw [e] at h ⊢
    obtain ⟨k1, rfl⟩ := (h ⟨a2, a3⟩).resolve_right (by simp only; omega)
    exact dec2 a1 k1 a3 a4
  · rw [e] at h h2 ⊢
    obtain ⟨k1, rfl⟩ := (h ⟨by omega, a3⟩).resolve_right (by simp only; omega)
    obtain ⟨k2, rfl⟩ := (h2 ⟨by omega, a4⟩).resolve_right (by simp only; omega)
    exact dec3 a1 k2 a3 a4 a5 a6
  · rw [e] at h h2 h3 ⊢
    obtain ⟨k1, rfl⟩ := (h ⟨by omega, a3⟩).resolve_right (by simp only; omega)
    obtain ⟨k2, rfl⟩ := (h2 ⟨by omega, a4⟩).resolve_right (by simp only; omega)
    obtain ⟨k3, rfl⟩ := (h3 ⟨by omega, a5⟩).resolve_right (by simp only; omega)
    exact dec4 a1 k3 a3 a4 a5 a6 a7
  · clear h h2 h3
    rcases decodeN_shape n' b0 c1 c2 c3 with ⟨a, e'⟩ | ⟨a1, a2, a3, a4, e'⟩ | ⟨a1, a2, a3, a4, a5, a6, e'⟩ | ⟨a1, a2, a3, a4, a5, a6, a7, e'⟩ | e'
    · rw [e', decodeN_ascii n _ _ _ _ a]
    · exfalso
      obtain ⟨k1, rfl⟩ := g ⟨a2, a3⟩
      rw [dec2 a1 k1 a3 a4] at e
      exact absurd (congrArg Prod.snd e) (by simp)
    · exfalso
      obtain ⟨k1, rfl⟩ := g ⟨by omega, a3⟩
      obtain ⟨k2, rfl⟩ := g2 ⟨by omega, a4⟩
      rw [dec3 a1 k2 a3 a4 a5 a6] at e
      exact absurd (congrArg Prod.snd e) (by simp)
    · exfalso
      obtain ⟨k1, rfl⟩ := g ⟨by omega, a3⟩
      obtain ⟨k2, rfl⟩ := g2 ⟨by omega, a4⟩
      obtain ⟨k3, rfl⟩ := g3 ⟨by omega, a5⟩
      rw [dec4 a1 k3 a3 a4 a5 a6 a7] at e
      exact absurd (congrArg Prod.snd e) (by simp)
    · rw [e, e']

theorem getD_over {l : List UInt8} {k : Nat} (h : l.length ≤ k) : l.getD k 0 = 0 := by simp [List.getD, List.getElem?_eq_none_iff.2 h]
theorem getD_app {l m : List UInt8} {k : Nat} (h : k < l.length) : (l ++ m).getD k 0 = l.getD k 0 := by simp [List.getD, List.getElem?_append_left h]
theorem getD_tk (l : List UInt8) (i k : Nat) (h : k < i) : (l.take i).getD k 0 = l.getD k 0 := by simp [List.getD, List.getElem?_take, h]

/-- A text that is cut behind its first rune begins with it. -/
theorem dec_take {l : List UInt8} {k : Nat} (hk : (decodeL l).2 ≤ k) : decodeL (l.take k) = decodeL l := by
  have hp := decodeL_width l
  rw [decodeL_N] at hk
  rw [decodeL_N, decodeL_N, getD_tk l k 0 (by rw [decodeL_N] at hp; omega), List.length_take]
  refine likeN _ _ _ _ _ _ _ _ _ ?_ ?_ ?_ ?_ ?_ ?_
  all_goals (intro ⟨p, q⟩)
  · by_cases h : 1 < k
    · exact .inl ⟨by omega, congrArg UInt8.toNat (getD_tk l k 1 h)⟩
    · exact .inr (by omega)
  · by_cases h : 2 < k
    · exact .inl ⟨by omega, congrArg UInt8.toNat (getD_tk l k 2 h)⟩
    · exact .inr (by omega)
  · by_cases h : 3 < k
    · exact .inl ⟨by omega, congrArg UInt8.toNat (getD_tk l k 3 h)⟩
    · exact .inr (by omega)
  · exact ⟨by omega, congrArg UInt8.toNat (getD_tk l k 1 (by omega))⟩
  · exact ⟨by omega, congrArg UInt8.toNat (getD_tk l k 2 (by omega))⟩
  · exact ⟨by omega, congrArg UInt8.toNat (getD_tk l k 3 (by omega))⟩

/-- A text whose first rune is right begins with it, however it goes on. -/
theorem dec_app {l m : List UInt8} (hne : l ≠ []) (hw : ¬ ((decodeL l).1 = 65533 ∧ (decodeL l).2 = 1)) : decodeL (l ++ m) = decodeL l := by
  have hl : 0 < l.length := List.length_pos_iff.2 hne
  have hle := decodeL_le l hne
  have h1 : decodeL ((l ++ m).take (decodeL l).2) = decodeL l := by
    rw [List.take_append_of_le_length hle]; exact dec_take (Nat.le_refl _)
  rw [decodeL_N] at hw hle
  rw [decodeL_N, decodeL_N l]
  have e0 : (l ++ m).getD 0 0 = l.getD 0 0 := getD_app hl
  rw [e0, List.length_append]
  rcases decodeN_shape l.length (l.getD 0 0).toNat (l.getD 1 0).toNat (l.getD 2 0).toNat (l.getD 3 0).toNat with ⟨a, e⟩ | ⟨a1, a2, a3, a4, e⟩ | ⟨a1, a2, a3, a4, a5, a6, e⟩ | ⟨a1, a2, a3, a4, a5, a6, a7, e⟩ | e
  · rw [e, decodeN_ascii _ _ _ _ _ a]
  · rw [e, getD_app a2]
    exact dec2 a1 (by omega) a3 a4
  · rw [e, getD_app (show 1 < l.length by omega), getD_app a2]
    exact dec3 a1 (by omega) a3 a4 a5 a6
  · rw [e, getD_app (show 1 < l.length by omega), getD_app (show 2 < l.length by omega), getD_app a2]
    exact dec4 a1 (by omega) a3 a4 a5 a6 a7
  · rw [e] at hw
    exact absurd ⟨rfl, rfl⟩ hw

/-- Small letters in the place of great ones. -/
def foldN (c : Nat) : Nat := if 65 ≤ c ∧ c ≤ 90 then c + 32 else c
def foldB (b : UInt8) : UInt8 := if 65 ≤ b.toNat ∧ b.toNat ≤ 90 then b + 32 else b
theorem foldB_toNat (b : UInt8) : (foldB b).toNat = foldN b.toNat := by
  unfold foldB foldN
  split
  · rw [UInt8.toNat_add]; simp; omega
  · rfl
theorem foldN_lt {c : Nat} (h : c < 128) : foldN c < 128 := by unfold foldN; split <;> omega
theorem foldN_ge {c : Nat} (h : 128 ≤ c) : foldN c = c := by unfold foldN; split <;> omega
theorem foldN_64 {c : Nat} (h : foldN c / 64 = 2) : foldN c = c := by
  unfold foldN at h ⊢; split at h <;> split <;> omega
theorem decN_fold (n b0 b1 b2 b3 : Nat) : decodeN n (foldN b0) (foldN b1) (foldN b2) (foldN b3) = (foldN (decodeN n b0 b1 b2 b3).1, (decodeN n b0 b1 b2 b3).2) := by
  by_cases h0 : b0 < 128
  · rw [decodeN_ascii _ _ _ _ _ h0, decodeN_ascii _ _ _ _ _ (foldN_lt h0)]
  · rw [foldN_ge (by omega : 128 ≤ b0)]
    have e : decodeN n b0 (foldN b1) (foldN b2) (foldN b3) = decodeN n b0 b1 b2 b3 :=
      likeN _ _ _ _ _ _ _ _ _ (fun h => .inl ⟨h.1, foldN_ge (by omega)⟩) (fun h => .inl ⟨h.1, foldN_ge (by omega)⟩) (fun h => .inl ⟨h.1, foldN_ge (by omega)⟩)
        (fun h => ⟨h.1, foldN_64 h.2⟩) (fun h => ⟨h.1, foldN_64 h.2⟩) (fun h => ⟨h.1, foldN_64 h.2⟩)
    rw [e, foldN_ge]
    rcases decodeN_shape n b0 b1 b2 b3 with ⟨a, e⟩ | ⟨a1, a2, a3, a4, e⟩ | ⟨a1, a2, a3, a4, a5, a6, e⟩ | ⟨a1, a2, a3, a4, a5, a6, a7, e⟩ | e
    all_goals (rw [e]; dsimp only; omega)
theorem dec_fold (l : List UInt8) : decodeL (l.map foldB) = (foldN (decodeL l).1, (decodeL l).2) := by
  have g : ∀ k, ((l.map foldB).getD k 0).toNat = foldN (l.getD k 0).toNat := by
    intro k
    by_cases h : k < l.length
    · simp [List.getD, h, foldB_toNat]
    · rw [getD_over (by simpa using h), getD_over (by omega)]; rfl
  rw [decodeL_N, decodeL_N, g, g, g, g, List.length_map, decN_fold]

/-- The runes of a text, each with its bytes. -/
def segF : Nat → List UInt8 → List (Nat × List UInt8)
  | 0, _ => []
  | f + 1, l => if l.isEmpty then [] else ((decodeL l).1, l.take (decodeL l).2) :: segF f (l.drop (decodeL l).2)
def segs (l : List UInt8) : List (Nat × List UInt8) := segF l.length l
theorem segF_more : ∀ (f g : Nat) (l : List UInt8), l.length ≤ f → l.length ≤ g → segF f l = segF g l
  | 0, g, l, h, h' => by
    obtain rfl := List.length_eq_zero_iff.1 (Nat.le_zero.1 h)
    cases g <;> simp [segF]
  | f + 1, 0, l, h, h' => by
    obtain rfl := List.length_eq_zero_iff.1 (Nat.le_zero.1 h')
    simp [segF]
  | f + 1, g + 1, l, h, h' => by
    have hw := decodeL_width l
    simp only [segF]
    rw [segF_more f g (l.drop (decodeL l).2) (by rw [List.length_drop]; omega) (by rw [List.length_drop]; omega)]
theorem segs_nil : segs [] = [] := rfl
theorem segs_cons {l : List UInt8} (hne : l ≠ []) : segs l = ((decodeL l).1, l.take (decodeL l).2) :: segs (l.drop (decodeL l).2) := by
  have hw := decodeL_width l
  have hl : 0 < l.length := List.length_pos_iff.2 hne
  have h := segF_more l.length (l.length - 1 + 1) l (Nat.le_refl _) (by omega)
  unfold segs
  rw [h]
  simp only [segF, List.isEmpty_iff]
  rw [if_neg hne, segF_more (l.length - 1) _ (l.drop (decodeL l).2) (by rw [List.length_drop]; omega) (Nat.le_refl _)]
theorem seg_ind {motive : List UInt8 → Prop} (nil : motive []) (cons : ∀ l, l ≠ [] → motive (l.drop (decodeL l).2) → motive l) (l : List UInt8) : motive l := by
  have : ∀ n (l : List UInt8), l.length ≤ n → motive l := by
    intro n
    induction n with
    | zero => intro l h; obtain rfl := List.length_eq_zero_iff.1 (Nat.le_zero.1 h); exact nil
    | succ n ih =>
      intro l h
      by_cases hne : l = []
      · subst hne; exact nil
      · have hw := decodeL_width l
        exact cons l hne (ih _ (by rw [List.length_drop]; omega))
  exact this l.length l (Nat.le_refl _)

/-- The bytes of runes. -/
def cat : List (Nat × List UInt8) → List UInt8
  | [] => []
  | s :: r => s.2 ++ cat r
theorem cat_append (a b : List (Nat × List UInt8)) : cat (a ++ b) = cat a ++ cat b := by
  induction a with
  | nil => rfl
  | cons s r ih => simp only [List.cons_append, cat, ih, List.append_assoc]
theorem cat_segs (l : List UInt8) : cat (segs l) = l := by
  induction l using seg_ind with
  | nil => rfl
  | cons l hne ih => rw [segs_cons hne, cat, ih, List.take_append_drop]
theorem segs_len_le (l : List UInt8) : (segs l).length ≤ l.length := by
  induction l using seg_ind with
  | nil => exact Nat.le_refl _
  | cons l hne ih =>
    have hw := decodeL_width l
    have hl : 0 < l.length := List.length_pos_iff.2 hne
    rw [List.length_drop] at ih
    rw [segs_cons hne, List.length_cons]; omega
theorem segs_eq_nil {l : List UInt8} (h : segs l = []) : l = [] := by
  have := cat_segs l
  rw [h] at this
  exact this.symm

/-- Is a rune one of a byte that is none? -/
def bad (s : Nat × List UInt8) : Bool := s.1 == 65533 && s.2.length == 1
def right (g : List (Nat × List UInt8)) : Bool := g.all fun s => !bad s
theorem bad_seg {l : List UInt8} (hne : l ≠ []) : bad ((decodeL l).1, l.take (decodeL l).2) = ((decodeL l).1 == 65533 && (decodeL l).2 == 1) := by
  unfold bad
  rw [List.length_take, Nat.min_eq_left (decodeL_le l hne)]

/-- A text that is cut behind some runes has just these. -/
theorem segs_take (l : List UInt8) : ∀ n, segs (cat ((segs l).take n)) = (segs l).take n := by
  induction l using seg_ind with
  | nil => intro n; simp [segs_nil, cat]
  | cons l hne ih =>
    intro n
    cases n with
    | zero => rfl
    | succ n =>
      have hw := decodeL_width l
      have hle := decodeL_le l hne
      rw [segs_cons hne, List.take_succ_cons, cat]
      have hz : cat ((segs (l.drop (decodeL l).2)).take n) ++ cat ((segs (l.drop (decodeL l).2)).drop n) = l.drop (decodeL l).2 := by
        rw [← cat_append, List.take_append_drop, cat_segs]
      have hi := ih n
      generalize cat ((segs (l.drop (decodeL l).2)).take n) = z at hz hi ⊢
      generalize cat ((segs (l.drop (decodeL l).2)).drop n) = y at hz
      have hw2 : (l.take (decodeL l).2).length = (decodeL l).2 := by rw [List.length_take]; omega
      have hcut : l.take (decodeL l).2 ++ z = l.take ((decodeL l).2 + z.length) := by
        have h3 : (l.take (decodeL l).2 ++ z) ++ y = l := by rw [List.append_assoc, hz, List.take_append_drop]
        have h4 : ((l.take (decodeL l).2 ++ z) ++ y).take ((decodeL l).2 + z.length) = l.take (decodeL l).2 ++ z := List.take_left' (by rw [List.length_append, hw2])
        rw [h3] at h4
        exact h4.symm
      have hd : decodeL (l.take (decodeL l).2 ++ z) = decodeL l := by rw [hcut]; exact dec_take (by omega)
      have hne2 : l.take (decodeL l).2 ++ z ≠ [] := by
        intro h
        have := congrArg List.length h
        rw [List.length_append, hw2] at this
        simp at this; omega
      rw [segs_cons hne2, hd, List.take_left' hw2, List.drop_left' hw2, hi]

theorem right_cons {s : Nat × List UInt8} {g : List (Nat × List UInt8)} : right (s :: g) = (!bad s && right g) := by simp only [right, List.all_cons]
theorem segs_append {a : List UInt8} (b : List UInt8) (h : right (segs a) = true) : segs (a ++ b) = segs a ++ segs b := by
  induction a using seg_ind with
  | nil => rfl
  | cons l hne ih =>
    rw [segs_cons hne, right_cons, bad_seg hne, Bool.and_eq_true] at h
    have hnb : ¬ ((decodeL l).1 = 65533 ∧ (decodeL l).2 = 1) := by
      intro ⟨h1, h2⟩
      rw [h1, h2] at h
      exact absurd h.1 (by decide)
    have hle := decodeL_le l hne
    rw [segs_cons (by simp [hne]), dec_app hne hnb, segs_cons hne, List.take_append_of_le_length hle, List.drop_append_of_le_length hle, ih h.2]
    rfl
theorem segs_fold (l : List UInt8) : segs (l.map foldB) = (segs l).map fun s => (foldN s.1, s.2.map foldB) := by
  induction l using seg_ind with
  | nil => rfl
  | cons l hne ih =>
    rw [segs_cons (by simpa using hne), dec_fold, segs_cons hne, List.map_cons]
    dsimp only
    rw [← List.map_take, ← List.map_drop, ih]

/-- What a rune that is right is written as. -/
theorem seg_encode {l : List UInt8} {s : Nat × List UInt8} (hs : s ∈ segs l) (hb : bad s = false) : encodeRune (s.1 : Int) = s.2 := by
  induction l using seg_ind with
  | nil => cases hs
  | cons l hne ih =>
    rw [segs_cons hne] at hs
    rcases List.mem_cons.1 hs with rfl | hs
    · rw [bad_seg hne] at hb
      exact encode_decode l hne (by intro ⟨h1, h2⟩; rw [h1, h2] at hb; exact absurd hb (by decide))
    · exact ih hs
theorem seg_rune_le {l : List UInt8} {s : Nat × List UInt8} (hs : s ∈ segs l) : s.1 ≤ 1114111 := by
  induction l using seg_ind with
  | nil => cases hs
  | cons l hne ih =>
    rw [segs_cons hne] at hs
    rcases List.mem_cons.1 hs with rfl | hs
    · exact decodeL_rune l
    · exact ih hs
def rns (l : List UInt8) : List Nat := (segs l).map (·.1)
/-- Texts without bytes that are none are told apart by their runes. -/
theorem rns_inj {a b : List UInt8} (ha : right (segs a) = true) (hb : right (segs b) = true) (h : rns a = rns b) : a = b := by
  have key : ∀ g, right g = true → (∀ s ∈ g, ∃ l, s ∈ segs l) → cat g = (g.map (·.1)).flatMap fun (c : Nat) => encodeRune (c : Int) := by
    intro g
    induction g with
    | nil => intros; rfl
    | cons s r ih =>
      intro hr hm
      rw [right_cons, Bool.and_eq_true] at hr
      obtain ⟨l, hl⟩ := hm s (by simp)
      have hbs : bad s = false := by simpa using hr.1
      simp only [cat, List.map_cons, List.flatMap_cons]
      rw [seg_encode hl hbs, ih hr.2 fun s hs => hm s (by simp [hs])]
  have h1 := key _ ha fun s hs => ⟨a, hs⟩
  have h2 := key _ hb fun s hs => ⟨b, hs⟩
  rw [cat_segs] at h1 h2
  unfold rns at h
  rw [h1, h2, h]

/-- Runes that no name has. -/
def barred (c : Nat) : Bool := decide (c < 33) || (decide (127 ≤ c) && decide (c ≤ 160)) || c == 8232 || c == 8233 || c == 65533
def mayG (g : List (Nat × List UInt8)) : Bool := decide (1 ≤ g.length) && decide (g.length ≤ 24) && (g.all fun s => !barred s.1) && !(g.head?.map (·.1) == some 45)
def may (l : List UInt8) : Bool := mayG (segs l)
theorem barred_fold (c : Nat) : barred (foldN c) = barred c := by
  unfold foldN
  split
  · unfold barred
    rw [decide_eq_false (by omega : ¬ c + 32 < 33), decide_eq_false (by omega : ¬ 127 ≤ c + 32), decide_eq_false (by omega : ¬ c < 33), decide_eq_false (by omega : ¬ 127 ≤ c),
      beq_eq_false_iff_ne.2 (by omega : c + 32 ≠ 8232), beq_eq_false_iff_ne.2 (by omega : c + 32 ≠ 8233), beq_eq_false_iff_ne.2 (by omega : c + 32 ≠ 65533),
      beq_eq_false_iff_ne.2 (by omega : c ≠ 8232), beq_eq_false_iff_ne.2 (by omega : c ≠ 8233), beq_eq_false_iff_ne.2 (by omega : c ≠ 65533)]
    rfl
  · rfl
theorem fold45 (c : Nat) : (foldN c == 45) = (c == 45) := by
  unfold foldN
  split
  · rw [beq_eq_false_iff_ne.2 (by omega : c + 32 ≠ 45), beq_eq_false_iff_ne.2 (by omega : c ≠ 45)]
  · rfl
theorem mayG_fold (g : List (Nat × List UInt8)) : mayG (g.map fun s => (foldN s.1, s.2.map foldB)) = mayG g := by
  unfold mayG
  rw [List.length_map, List.all_map]
  have h1 : ((List.map (fun s : Nat × List UInt8 => (foldN s.1, List.map foldB s.2)) g).head?.map (·.1) == some 45) = (g.head?.map (·.1) == some 45) := by
    cases g with
    | nil => rfl
    | cons s r =>
      have := fold45 s.1
      simp only [List.map_cons, List.head?_cons, Option.map_some]
      exact this
  have h2 : ((fun s : Nat × List UInt8 => !barred s.1) ∘ fun s : Nat × List UInt8 => (foldN s.1, List.map foldB s.2)) = fun s => !barred s.1 := by
    funext s
    simp [barred_fold]
  rw [h1, h2]
theorem may_fold (l : List UInt8) : may (l.map foldB) = may l := by
  unfold may; rw [segs_fold, mayG_fold]
theorem right_fold (l : List UInt8) : right (segs (l.map foldB)) = right (segs l) := by
  rw [segs_fold]
  unfold right
  rw [List.all_map]
  congr 1
  funext s
  have : (foldN s.1 == 65533) = (s.1 == 65533) := by
    unfold foldN
    split
    · rw [beq_eq_false_iff_ne.2 (by omega : s.1 + 32 ≠ 65533), beq_eq_false_iff_ne.2 (by omega : s.1 ≠ 65533)]
    · rfl
  simp only [bad, this, Function.comp, List.length_map]
theorem may_right {l : List UInt8} (h : may l = true) : right (segs l) = true := by
  unfold may mayG at h
  simp only [Bool.and_eq_true, List.all_eq_true] at h
  unfold right
  rw [List.all_eq_true]
  intro s hs
  have := h.1.2 s hs
  cases hb : bad s with
  | false => rfl
  | true =>
    exfalso
    unfold bad at hb
    rw [Bool.and_eq_true, beq_iff_eq] at hb
    rw [hb.1] at this
    exact absurd this (by decide)
theorem foldB_fold (b : UInt8) : foldB (foldB b) = foldB b := by
  apply UInt8.toNat_inj.1
  rw [foldB_toNat, foldB_toNat]
  by_cases h : 65 ≤ b.toNat ∧ b.toNat ≤ 90
  · have e : foldN b.toNat = b.toNat + 32 := if_pos h
    rw [e]
    exact if_neg (by omega)
  · have e : foldN b.toNat = b.toNat := if_neg h
    rw [e, e]
theorem fold_fold (l : List UInt8) : (l.map foldB).map foldB = l.map foldB := by
  rw [List.map_map]; congr 1; funext b; exact foldB_fold b

/-- The order of texts. -/
def lex : List Nat → List Nat → Bool
  | [], [] => false
  | [], _ :: _ => true
  | _ :: _, [] => false
  | a :: r, b :: s => if a = b then lex r s else decide (a < b)
theorem lex_irr (a : List Nat) : lex a a = false := by
  induction a with
  | nil => rfl
  | cons x r ih => simp [lex, ih]
theorem lex_asym : ∀ (a b : List Nat), lex a b = true → lex b a = false
  | [], [], h => rfl
  | [], _ :: _, h => rfl
  | _ :: _, [], h => by simp [lex] at h
  | x :: r, y :: s, h => by
    simp only [lex] at h ⊢
    by_cases e : x = y
    · subst e
      rw [if_pos rfl] at h ⊢
      exact lex_asym r s h
    · rw [if_neg e, decide_eq_true_eq] at h
      rw [if_neg (Ne.symm e), decide_eq_false_iff_not]; omega
theorem lex_trans : ∀ (a b c : List Nat), lex a b = true → lex b c = true → lex a c = true
  | [], [], c, h, h' => h'
  | [], _ :: _, [], h, h' => by simp [lex] at h'
  | [], _ :: _, _ :: _, h, h' => rfl
  | _ :: _, [], c, h, h' => by simp [lex] at h
  | _ :: _, _ :: _, [], h, h' => by simp [lex] at h'
  | x :: r, y :: s, z :: t, h, h' => by
    simp only [lex] at h h' ⊢
    by_cases e : x = y
    · subst e
      rw [if_pos rfl] at h
      by_cases e2 : x = z
      · subst e2
        rw [if_pos rfl] at h' ⊢
        exact lex_trans r s t h h'
      · rw [if_neg e2] at h' ⊢; exact h'
    · rw [if_neg e, decide_eq_true_eq] at h
      by_cases e2 : y = z
      · subst e2
        rw [if_neg e, decide_eq_true_eq]; exact h
      · rw [if_neg e2, decide_eq_true_eq] at h'
        rw [if_neg (by omega), decide_eq_true_eq]; omega
theorem lex_tri : ∀ (a b : List Nat), lex a b = false → lex b a = false → a = b
  | [], [], h, h' => rfl
  | [], _ :: _, h, h' => by simp [lex] at h
  | _ :: _, [], h, h' => by simp [lex] at h'
  | x :: r, y :: s, h, h' => by
    simp only [lex] at h h'
    by_cases e : x = y
    · subst e
      rw [if_pos rfl] at h h'
      rw [lex_tri r s h h']
    · rw [if_neg e, decide_eq_false_iff_not] at h
      rw [if_neg (Ne.symm e), decide_eq_false_iff_not] at h'
      omega
theorem lex_pre : ∀ (a b : List Nat), lex (a ++ b) a = false
  | [], [] => rfl
  | [], _ :: _ => rfl
  | x :: r, b => by simp only [List.cons_append, lex, if_true]; exact lex_pre r b
theorem lex_pre2 : ∀ (a b : List Nat), b ≠ [] → lex a (a ++ b) = true
  | [], [], h => absurd rfl h
  | [], _ :: _, h => rfl
  | x :: r, b, h => by simp only [List.cons_append, lex, if_true]; exact lex_pre2 r b h
def less (a b : List UInt8) : Bool := lex (rns a) (rns b)
def cut (l : List UInt8) (n : Int) : List UInt8 := cat ((segs l).take n.toNat)
theorem cut_len_le (l : List UInt8) (n : Int) : (cut l n).length ≤ l.length := by
  have := cat_segs l
  rw [← List.take_append_drop n.toNat (segs l), cat_append] at this
  have := congrArg List.length this
  rw [List.length_append] at this
  unfold cut; omega
theorem cut_take (l : List UInt8) (n : Int) : l.take (cut l n).length = cut l n := by
  have := cat_segs l
  rw [← List.take_append_drop n.toNat (segs l), cat_append] at this
  have h4 : (cat ((segs l).take n.toNat) ++ cat ((segs l).drop n.toNat)).take (cut l n).length = cat ((segs l).take n.toNat) := List.take_left' rfl
  rw [this] at h4
  exact h4
theorem cut_cut (l : List UInt8) (n m : Int) : cut (cut l n) m = cut l (if m < n then m else n) := by
  unfold cut
  rw [segs_take, List.take_take]
  congr 2
  split <;> omega
theorem cut_segs (l : List UInt8) (n : Int) : segs (cut l n) = (segs l).take n.toNat := segs_take l _
theorem may_cut {l : List UInt8} {n : Int} (h : may l = true) (hn : 1 ≤ n) : may (cut l n) = true := by
  unfold may at h ⊢
  rw [cut_segs]
  unfold mayG at h ⊢
  simp only [Bool.and_eq_true, decide_eq_true_eq, List.all_eq_true, List.length_take] at h ⊢
  obtain ⟨⟨⟨h1, h2⟩, h3⟩, h4⟩ := h
  refine ⟨⟨⟨by omega, by omega⟩, fun s hs => h3 s (List.mem_of_mem_take hs)⟩, ?_⟩
  rw [List.head?_take, if_neg (by omega)]
  exact h4
end Go.AW.Nam
