/- The plain law of a node in a page: what is written is read again; the reference reads a page as the program does. -/
import Derived.Test.YtjmpekanlmepmaaGreatDoorQa
set_option linter.unusedVariables false
set_option linter.unusedSimpArgs false
set_option linter.unusedSectionVars false
set_option linter.constructorNameAsVariable false
namespace Go.Proofs.YtjmpekanlmepmaaGreatDoor.Bt

theorem pack_unpack {x : Int} (h0 : 0 ≤ x) (h : validP (unpack x) = true) : pack (unpack x) = x := by
  unfold pack
  rw [if_pos h]
  simp only [unpack]
  omega
theorem unpack_zero : unpack 0 = nilP := rfl
theorem validP_nil : validP nilP = false := by decide
theorem unpack_nil {x : Int} (h0 : 0 ≤ x) (h : unpack x = nilP) : x = 0 := by
  simp only [unpack, nilP, Ptr.mk.injEq] at h
  omega
theorem pack_unpack' {x : Int} (h0 : 0 ≤ x) : pack (unpack x) = x ↔ (x = 0 ∨ validP (unpack x) = true) := by
  constructor
  · intro h
    by_cases hv : validP (unpack x) = true
    · exact .inr hv
    · left
      unfold pack at h
      rw [if_neg hv] at h
      exact h.symm
  · rintro (rfl | h)
    · rfl
    · exact pack_unpack h0 h
theorem validP_lt {p : Ptr} (h : validP p = true) : 104 ≤ p.line ∧ p.line < 256 ∧ 1 ≤ p.gen ∧ p.gen ≤ 16777215 := by
  simp only [validP, inHeap, Bool.and_eq_true, decide_eq_true_eq] at h
  omega
theorem pack_lt (p : Ptr) : 0 ≤ pack p ∧ pack p < 4294967296 := by
  unfold pack
  split
  · have := validP_lt (by assumption); omega
  · omega
theorem unpack_pack {p : Ptr} (h : p = nilP ∨ validP p = true) : unpack (pack p) = p := by
  rcases h with rfl | h
  · rfl
  · have := validP_lt h
    obtain ⟨l, g⟩ := p
    simp only [pack, h, if_true, unpack, Ptr.mk.injEq] at this ⊢
    omega

/-- The reference's validity of a node. -/
def refEntries (level high : Int) : Int → List Entry → Bool
  | _, [] => true
  | last, e :: es => decide (1 ≤ e.key) && decide (e.key ≤ high) && validP e.to && !(decide (level = 0) && decide (maxKey < e.key)) && decide (last < e.key) && refEntries level high e.key es

theorem rising_last {last : Int} {es : List Entry} (h : risingFrom last es = true) (hne : es ≠ []) : last < lastKey es := by
  induction es generalizing last with
  | nil => exact absurd rfl hne
  | cons e es ih =>
    simp only [risingFrom, Bool.and_eq_true, decide_eq_true_eq] at h
    cases es with
    | nil => exact h.1.1
    | cons e' es => have := ih h.2 (by simp); simp only [lastKey]; omega
theorem refEntries_iff (level high : Int) (last : Int) (hl : 0 ≤ last) (es : List Entry) :
    refEntries level high last es = true ↔ (risingFrom last es = true ∧ (es ≠ [] → lastKey es ≤ high) ∧ (level = 0 → lastKey es ≤ maxKey)) := by
  induction es generalizing last with
  | nil => simp [refEntries, risingFrom, lastKey, maxKey]
  | cons e es ih =>
    by_cases hk : last < e.key
    · have hi := ih e.key (by omega)
      simp only [refEntries, risingFrom, Bool.and_eq_true, decide_eq_true_eq, Bool.not_eq_true', Bool.and_eq_false_iff, decide_eq_false_iff_not, hi]
      cases es with
      | nil =>
        simp only [risingFrom, lastKey, ne_eq, reduceCtorEq, not_false_eq_true, forall_const, and_true, true_and, not_true_eq_false, false_implies]
        constructor
        · rintro ⟨⟨⟨⟨⟨h1, h2⟩, h3⟩, h4⟩, h5⟩, _⟩
          refine ⟨⟨hk, h3⟩, h2, fun h0 => ?_⟩
          rcases h4 with h4 | h4
          · exact absurd h0 h4
          · omega
        · rintro ⟨⟨_, h3⟩, h7, h8⟩
          refine ⟨⟨⟨⟨⟨by omega, h7⟩, h3⟩, ?_⟩, hk⟩, fun _ => by unfold maxKey; omega⟩
          by_cases h0 : level = 0
          · right; have := h8 h0; omega
          · left; exact h0
      | cons e' es =>
        simp only [lastKey, ne_eq, reduceCtorEq, not_false_eq_true, forall_const]
        constructor
        · rintro ⟨⟨⟨⟨⟨h1, h2⟩, h3⟩, h4⟩, h5⟩, h6, h7, h8⟩
          exact ⟨⟨⟨hk, h3⟩, h6⟩, h7, h8⟩
        · rintro ⟨⟨⟨_, h3⟩, h6⟩, h7, h8⟩
          have hr := rising_last h6 (by simp)
          refine ⟨⟨⟨⟨⟨by omega, by omega⟩, h3⟩, ?_⟩, hk⟩, h6, h7, h8⟩
          by_cases h0 : level = 0
          · right; have := h8 h0; omega
          · left; exact h0
    · simp [refEntries, risingFrom, hk]

def refValid (n : Node) : Bool :=
  if n.level < 0 ∨ 8 < n.level ∨ n.high < 1 ∨ decide (n.right = nilP) ≠ decide (n.high = maxHigh) ∨ (n.right ≠ nilP ∧ validP n.right = false) ∨ 5 < n.entries.length then false
  else if refEntries n.level n.high 0 n.entries = false then false
  else if 0 < n.level ∧ (n.entries.length = 0 ∨ lastKey n.entries ≠ n.high) then false
  else !n.dead || (decide (n.level = 0) && decide (n.entries.length = 0) && !n.leftmost && !decide (n.right = nilP))

theorem refValid_eq (n : Node) (hh : 0 ≤ n.high) : refValid n = n.valid := by
  have hre := refEntries_iff n.level n.high 0 (Int.le_refl 0) n.entries
  unfold refValid Node.valid rising
  by_cases h1 : n.level < 0 ∨ 8 < n.level
  · rw [if_pos (by rcases h1 with h | h <;> simp [h]), if_pos (by rcases h1 with h | h <;> simp [h])]
  by_cases h2 : n.high = 0
  · rw [if_pos (by simp [h2]), if_pos (by simp [h2])]
  by_cases h3 : 5 < n.entries.length
  · rw [if_pos (by simp [h3]), if_pos (by simp [h3])]
  by_cases h4 : decide (n.right = nilP) ≠ decide (n.high = maxHigh)
  · rw [if_pos (.inr (.inr (.inr (.inl h4))))]
    split
    · rfl
    · rw [if_pos (.inr (fun h => h4 h.symm))]
  by_cases h5 : n.right ≠ nilP ∧ validP n.right = false
  · rw [if_pos (.inr (.inr (.inr (.inr (.inl h5)))))]
    split
    · rfl
    · rw [if_pos (.inl h5)]
  rw [if_neg (by
    rintro (h | h | h | h | h | h)
    · exact h1 (.inl h)
    · exact h1 (.inr h)
    · omega
    · exact h4 h
    · exact h5 h
    · exact h3 h)]
  by_cases h6 : risingFrom 0 n.entries = false
  · rw [if_pos (by cases hr : refEntries n.level n.high 0 n.entries with
      | false => rfl
      | true => have := (hre.1 hr).1; rw [h6] at this; exact absurd this (by simp)), if_pos (.inr (.inr (.inr (.inl h6))))]
  have h6' : risingFrom 0 n.entries = true := by simpa using h6
  rw [if_neg (c := n.level < 0 ∨ 8 < n.level ∨ 5 < n.entries.length ∨ risingFrom 0 n.entries = false ∨ n.high = 0) (by
    rintro (h | h | h | h | h)
    · exact h1 (.inl h)
    · exact h1 (.inr h)
    · exact h3 h
    · exact h6 h
    · exact h2 h)]
  rw [if_neg (c := (n.right ≠ nilP ∧ validP n.right = false) ∨ decide (n.high = maxHigh) ≠ decide (n.right = nilP)) (by
    rintro (h | h)
    · exact h5 h
    · exact h4 (fun e => h e.symm))]
  have hlz : n.entries = [] → lastKey n.entries = 0 := fun h => by rw [h]; rfl
  by_cases h7 : 0 < n.level
  · rw [if_pos h7]
    by_cases h8 : lastKey n.entries = n.high
    · have hne : n.entries ≠ [] := fun h => by have := hlz h; omega
      have hr : refEntries n.level n.high 0 n.entries = true := hre.2 ⟨h6', fun _ => by omega, fun h => by omega⟩
      rw [if_neg (by simp [hr]), if_neg (by
        rintro ⟨_, h | h⟩
        · exact hne (List.length_eq_zero_iff.1 h)
        · exact h h8)]
      have hd : decide (n.level = 0) = false := by simp; omega
      simp [h8, hd]
    · have : (!n.dead && decide (lastKey n.entries = n.high)) = false := by simp [h8]
      rw [this]
      split
      · rfl
      · rw [if_pos ⟨h7, .inr h8⟩]
  · rw [if_neg h7]
    have h0 : n.level = 0 := by omega
    by_cases h8 : lastKey n.entries ≤ n.high ∧ lastKey n.entries ≤ maxKey
    · have hr : refEntries n.level n.high 0 n.entries = true := hre.2 ⟨h6', fun _ => h8.1, fun _ => h8.2⟩
      rw [if_neg (by simp [hr]), if_neg (by rintro ⟨h, _⟩; omega)]
      by_cases hd : n.dead = true
      · by_cases h9 : 0 < n.entries.length ∨ n.leftmost = true ∨ n.right = nilP
        · rw [if_pos ⟨hd, h9⟩]
          rcases h9 with h | h | h
          · have : ¬ n.entries.length = 0 := by omega
            have h' : ¬ n.entries = [] := fun e => this (by simp [e])
            simp [hd, h']
          · simp [hd, h]
          · simp [hd, h]
        · rw [if_neg (fun h => h9 h.2)]
          have : ¬ 0 < n.entries.length := fun h => h9 (.inl h)
          have h10 : n.leftmost = false := by
            cases h : n.leftmost
            · rfl
            · exact absurd (.inr (.inl h)) h9
          have h11 : ¬ n.right = nilP := fun h => h9 (.inr (.inr h))
          have hl : n.entries.length = 0 := by omega
          simp [hd, h0, hl, h10, h11, h8.1, h8.2]
      · rw [if_neg (fun h => hd h.1)]
        simp [hd, h8.1, h8.2]
    · have hr : refEntries n.level n.high 0 n.entries = false := by
        cases hr : refEntries n.level n.high 0 n.entries with
        | false => rfl
        | true =>
          obtain ⟨_, a, b⟩ := hre.1 hr
          exfalso
          refine h8 ⟨?_, b h0⟩
          by_cases he : n.entries = []
          · have := hlz he; omega
          · exact a he
      rw [if_pos hr]
      have : (decide (lastKey n.entries ≤ n.high) && decide (lastKey n.entries ≤ maxKey)) = false := by
        rw [← Bool.not_eq_true, Bool.and_eq_true, decide_eq_true_eq, decide_eq_true_eq]; exact h8
      rw [this]
      split <;> rfl

/-- A word's entry is packed as the word was. -/
theorem entryWord_entryOf {x : Int} (h0 : 0 ≤ x) (h : validP (entryOf x).to = true) : entryWord (entryOf x) = x := by
  have := pack_unpack (x := x % 4294967296) (by omega) h
  simp only [entryWord, entryOf] at this ⊢
  rw [this]; omega
theorem entryOf_entryWord {e : Entry} (hk : 0 ≤ e.key) (h : validP e.to = true) : entryOf (entryWord e) = e := by
  have h1 := pack_lt e.to
  have h2 := unpack_pack (.inr h)
  obtain ⟨k, t⟩ := e
  simp only [entryWord, entryOf, Entry.mk.injEq] at *
  refine ⟨by omega, ?_⟩
  rw [show (k * 4294967296 + pack t) % 4294967296 = pack t by omega]
  exact h2

theorem rising_valid {last : Int} {es : List Entry} (h : risingFrom last es = true) : ∀ e ∈ es, last < e.key ∧ validP e.to = true := by
  induction es generalizing last with
  | nil => intro e he; cases he
  | cons x es ih =>
    simp only [risingFrom, Bool.and_eq_true, decide_eq_true_eq] at h
    intro e he
    rcases List.mem_cons.1 he with rfl | he
    · exact h.1
    · have := ih h.2 e he
      exact ⟨by omega, this.2⟩

theorem Node.valid_parts {n : Node} (h : n.valid = true) : 0 ≤ n.level ∧ n.level ≤ 8 ∧ n.entries.length ≤ 5 ∧ rising n.entries = true ∧ n.high ≠ 0 ∧ (n.right = nilP ∨ validP n.right = true) ∧ (n.high = maxHigh ↔ n.right = nilP) ∧ lastKey n.entries ≤ n.high ∧
    (n.dead = true → n.level = 0 ∧ n.entries = [] ∧ n.leftmost = false ∧ n.right ≠ nilP) ∧ (0 < n.level → lastKey n.entries = n.high) ∧ (n.level = 0 → lastKey n.entries ≤ maxKey) := by
  unfold Node.valid at h
  by_cases h1 : n.level < 0 ∨ 8 < n.level ∨ 5 < n.entries.length ∨ rising n.entries = false ∨ n.high = 0
  · rw [if_pos h1] at h; cases h
  rw [if_neg h1] at h
  by_cases h2 : (n.right ≠ nilP ∧ validP n.right = false) ∨ decide (n.high = maxHigh) ≠ decide (n.right = nilP)
  · rw [if_pos h2] at h; cases h
  rw [if_neg h2] at h
  have h3 : rising n.entries = true := by
    cases hr : rising n.entries with
    | true => rfl
    | false => exact absurd (.inr (.inr (.inr (.inl hr)))) h1
  have h4 : n.right = nilP ∨ validP n.right = true := by
    by_cases hn : n.right = nilP
    · exact .inl hn
    · right
      cases hv : validP n.right with
      | true => rfl
      | false => exact absurd (.inl ⟨hn, hv⟩) h2
  have h5 : n.high = maxHigh ↔ n.right = nilP := by
    have : decide (n.high = maxHigh) = decide (n.right = nilP) := by
      by_cases he : decide (n.high = maxHigh) = decide (n.right = nilP)
      · exact he
      · exact absurd (.inr he) h2
    simpa using this
  have b1 : ¬ n.level < 0 := fun x => h1 (.inl x)
  have b2 : ¬ 8 < n.level := fun x => h1 (.inr (.inl x))
  have b3 : ¬ 5 < n.entries.length := fun x => h1 (.inr (.inr (.inl x)))
  have b4 : ¬ n.high = 0 := fun x => h1 (.inr (.inr (.inr (.inr x))))
  by_cases h6 : 0 < n.level
  · rw [if_pos h6] at h
    simp only [Bool.and_eq_true, Bool.not_eq_true', decide_eq_true_eq] at h
    exact ⟨by omega, by omega, by omega, h3, b4, h4, h5, by omega, fun hd => (by rw [h.1] at hd; cases hd), fun _ => h.2, fun h0 => by omega⟩
  · rw [if_neg h6] at h
    by_cases h7 : n.dead = true ∧ (0 < n.entries.length ∨ n.leftmost = true ∨ n.right = nilP)
    · rw [if_pos h7] at h; cases h
    · rw [if_neg h7] at h
      simp only [Bool.and_eq_true, decide_eq_true_eq] at h
      refine ⟨by omega, by omega, by omega, h3, b4, h4, h5, h.1, fun hd => ?_, fun h0 => by omega, fun _ => h.2⟩
      refine ⟨by omega, ?_, ?_, fun hn => h7 ⟨hd, .inr (.inr hn)⟩⟩
      · cases hc : n.entries with
        | nil => rfl
        | cons a b => exact absurd ⟨hd, .inl (by rw [hc]; simp)⟩ h7
      · cases hc : n.leftmost with
        | false => rfl
        | true => exact absurd ⟨hd, .inr (.inl hc)⟩ h7

theorem flag_cases (b : Bool) (v : Int) : (b = true ∧ flag b v = v) ∨ (b = false ∧ flag b v = 0) := by cases b <;> simp [flag]
theorem aux_range {n : Node} (h1 : 0 ≤ n.level) (h2 : n.level ≤ 8) (h3 : n.entries.length ≤ 5) : 0 ≤ n.aux ∧ n.aux < 262144 := by
  unfold Node.aux
  rcases flag_cases n.leftmost 65536 with ⟨_, h⟩ | ⟨_, h⟩ <;> rcases flag_cases n.dead 131072 with ⟨_, h'⟩ | ⟨_, h'⟩ <;> rw [h, h'] <;> omega
theorem tags_packTag {k g a : Int} (hk : 0 ≤ k ∧ k < 256) (hg : 0 ≤ g ∧ g < 16777216) (ha : 0 ≤ a) : tagKind (packTag k g a) = k ∧ tagGen (packTag k g a) = g ∧ tagAux (packTag k g a) = a := by
  unfold packTag tagKind tagGen tagAux
  refine ⟨by omega, by omega, by omega⟩
theorem fill_tags {n : Node} (h : n.valid = true) (p : Page) : tagKind (n.fill p).d0 = tagKind p.d0 ∧ tagGen (n.fill p).d0 = tagGen p.d0 ∧ tagAux (n.fill p).d0 = n.aux := by
  obtain ⟨h1, h2, h3, _⟩ := Node.valid_parts h
  exact tags_packTag (by unfold tagKind; omega) (by unfold tagGen; omega) (aux_range h1 h2 h3).1

theorem words_fill (n : Node) (p : Page) : (n.fill p).words = [wordAt n.entries 0, wordAt n.entries 1, wordAt n.entries 2, wordAt n.entries 3, wordAt n.entries 4] := rfl
theorem take_words (es : List Entry) (h5 : es.length ≤ 5) : [wordAt es 0, wordAt es 1, wordAt es 2, wordAt es 3, wordAt es 4].take es.length = es.map entryWord := by
  match es, h5 with
  | [], _ => rfl
  | [a], _ => rfl
  | [a, b], _ => rfl
  | [a, b, c], _ => rfl
  | [a, b, c, d], _ => rfl
  | [a, b, c, d, e], _ => rfl
  | a :: b :: c :: d :: e :: f :: g, h => simp at h
theorem map_id_of {l : List Entry} {f : Entry → Entry} (h : ∀ e ∈ l, f e = e) : l.map f = l := by
  induction l with
  | nil => rfl
  | cons a l ih => rw [List.map_cons, h a (by simp), ih (fun e he => h e (by simp [he]))]

theorem aux_parts {n : Node} (h1 : 0 ≤ n.level) (h2 : n.level ≤ 8) (h3 : n.entries.length ≤ 5) :
    n.aux % 256 = n.level ∧ n.aux / 256 % 256 = n.entries.length ∧ decide (n.aux / 65536 % 2 = 1) = n.leftmost ∧ decide (n.aux / 131072 % 2 = 1) = n.dead := by
  unfold Node.aux
  rcases flag_cases n.leftmost 65536 with ⟨hb, h⟩ | ⟨hb, h⟩ <;> rcases flag_cases n.dead 131072 with ⟨hb', h'⟩ | ⟨hb', h'⟩ <;> rw [h, h', hb, hb'] <;>
    refine ⟨by omega, by omega, ?_, ?_⟩ <;> first | (apply decide_eq_true; omega) | (apply decide_eq_false; omega)

/-- What is written is read again. -/
theorem node_fill {n : Node} (h : n.valid = true) (hh : 0 ≤ n.high) (hh2 : n.high < 4294967296) (p : Page) : (n.fill p).node = n ∧ (n.fill p).count = n.entries.length := by
  obtain ⟨h1, h2, h3, h4, h5, h6, _⟩ := Node.valid_parts h
  obtain ⟨t1, t2, t3⟩ := fill_tags h p
  obtain ⟨a1, a2, a3, a4⟩ := aux_parts h1 h2 h3
  have hc : (n.fill p).count = n.entries.length := by unfold Page.count; rw [t3, a2]
  refine ⟨?_, hc⟩
  have hp := pack_lt n.right
  have hr : unpack (pack n.right) = n.right := unpack_pack h6
  have he : ((n.fill p).words.take (n.fill p).count.toNat).map entryOf = n.entries := by
    rw [hc, words_fill]
    rw [show ((n.entries.length : Int).toNat) = n.entries.length by simp, take_words _ h3, List.map_map]
    exact map_id_of fun e he => by
      have := rising_valid h4 e he
      exact entryOf_entryWord (by omega) this.2
  unfold Page.node
  rw [t3, a1, a3, a4, he]
  have hd1 : (n.fill p).d1 = n.high + pack n.right * 4294967296 := rfl
  rw [hd1, show (n.high + pack n.right * 4294967296) % 4294967296 = n.high by omega, show (n.high + pack n.right * 4294967296) / 4294967296 = pack n.right by omega, hr]

theorem fill_fill (n : Node) (h : n.valid = true) (p : Page) : n.fill (n.fill p) = n.fill p := by
  obtain ⟨t1, t2, t3⟩ := fill_tags h p
  unfold Node.fill at *
  simp only at t1 t2
  simp only [t1, t2]
theorem readNode_fill {n : Node} (h : n.valid = true) (hh : 0 ≤ n.high) (hh2 : n.high < 4294967296) {p : Page} (hk : tagKind p.d0 = 4) : readNode (n.fill p) = some n := by
  obtain ⟨e1, e2⟩ := node_fill h hh hh2 p
  obtain ⟨_, _, h3, _⟩ := Node.valid_parts h
  obtain ⟨t1, _, _⟩ := fill_tags h p
  unfold readNode
  rw [if_neg (by rintro (x | x); exact x (t1.trans hk); omega), e1, if_pos ⟨h, fill_fill n h p⟩]

/-- Where the node that a page holds is valid, the page is what that node makes of it exactly if nothing else is in it. -/
theorem fill_self {p : Page} (hp : p.Ok) (hc : p.count ≤ 5) (hv : p.node.valid = true) :
    p.node.fill p = p ↔ (tagAux p.d0 / 262144 = 0 ∧ ∀ i, p.count.toNat ≤ i → ∀ x, p.words[i]? = some x → x = 0) := by
  obtain ⟨h1, h2, h3, h4, h5, h6, _⟩ := Node.valid_parts hv
  have hd0 := hp.d0
  have hd1 := hp.d1
  have hcn : 0 ≤ p.count := by unfold Page.count; omega
  have hwl : p.words.length = 5 := rfl
  have hlen : p.node.entries.length = p.count.toNat := by
    show ((p.words.take p.count.toNat).map entryOf).length = _
    rw [List.length_map, List.length_take, hwl]; omega
  have haux : p.node.aux = tagAux p.d0 ↔ tagAux p.d0 / 262144 = 0 := by
    have ht : 0 ≤ tagAux p.d0 := by unfold tagAux; omega
    generalize hA : tagAux p.d0 = A at *
    have e1 : p.node.level = A % 256 := by rw [← hA]; rfl
    have e2 : (p.node.entries.length : Int) = A / 256 % 256 := by rw [hlen, ← hA]; unfold Page.count at hcn ⊢; omega
    have e3 : p.node.leftmost = decide (A / 65536 % 2 = 1) := by rw [← hA]; rfl
    have e4 : p.node.dead = decide (A / 131072 % 2 = 1) := by rw [← hA]; rfl
    unfold Node.aux
    rw [e1, e2, e3, e4]
    unfold flag
    simp only [decide_eq_true_eq]
    split <;> split <;> omega
  have hright : pack p.node.right = p.d1 / 4294967296 := by
    show pack (unpack (p.d1 / 4294967296)) = _
    rw [pack_unpack' (by omega)]
    rcases h6 with h | h
    · exact .inl (unpack_nil (by omega) h)
    · exact .inr h
  have hw : ∀ i x, p.words[i]? = some x → (wordAt p.node.entries i = if i < p.count.toNat then x else 0) := by
    intro i x hx
    unfold wordAt
    have hi : i < 5 := by have := (List.getElem?_eq_some_iff.1 hx).1; omega
    by_cases hlt : i < p.count.toNat
    · rw [if_pos hlt]
      have he : p.node.entries[i]? = some (entryOf x) := by
        show ((p.words.take p.count.toNat).map entryOf)[i]? = _
        rw [List.getElem?_map, List.getElem?_take_of_lt hlt, hx]
        rfl
      rw [he]
      have hm := (rising_valid h4 _ (List.mem_of_getElem? he)).2
      have hx0 : 0 ≤ x := by
        have hmem := List.mem_of_getElem? hx
        simp only [Page.words, List.mem_cons, List.not_mem_nil, or_false] at hmem
        have := hp.d2; have := hp.d3; have := hp.d4; have := hp.d5; have := hp.d6
        rcases hmem with rfl | rfl | rfl | rfl | rfl <;> omega
      exact entryWord_entryOf hx0 hm
    · rw [if_neg hlt]
      have : p.node.entries[i]? = none := List.getElem?_eq_none (by omega)
      rw [this]
  have hd0' : packTag (tagKind p.d0) (tagGen p.d0) p.node.aux = p.d0 ↔ p.node.aux = tagAux p.d0 := by
    have := (aux_range h1 h2 h3).1
    unfold packTag tagKind tagGen tagAux
    omega
  have hd1' : p.node.high + pack p.node.right * 4294967296 = p.d1 := by
    rw [hright]
    show p.d1 % 4294967296 + _ = _
    omega
  constructor
  · intro h
    unfold Node.fill at h
    have h := h
    rw [Page.mk.injEq] at h
    obtain ⟨_, _, q0, _, q2, q3, q4, q5, q6⟩ := h
    refine ⟨haux.1 (hd0'.1 q0), fun i hi x hx => ?_⟩
    have := hw i x hx
    rw [if_neg (by omega)] at this
    have h5 : i < 5 := by have := (List.getElem?_eq_some_iff.1 hx).1; omega
    match i, h5 with
    | 0, _ => simp [Page.words] at hx; omega
    | 1, _ => simp [Page.words] at hx; omega
    | 2, _ => simp [Page.words] at hx; omega
    | 3, _ => simp [Page.words] at hx; omega
    | 4, _ => simp [Page.words] at hx; omega
  · rintro ⟨q0, qw⟩
    unfold Node.fill
    have hz : ∀ i x, p.words[i]? = some x → wordAt p.node.entries i = x := fun i x hx => by
      rw [hw i x hx]
      split
      · rfl
      · exact (qw i (by omega) x hx).symm
    rw [hd0'.2 (haux.2 q0), hd1', hz 0 p.d2 rfl, hz 1 p.d3 rfl, hz 2 p.d4 rfl, hz 3 p.d5 rfl, hz 4 p.d6 rfl]

/-- Are all words behind the counted ones zero? -/
def restZero (p : Page) : Bool := (p.words.drop p.count.toNat).all (fun x => decide (x = 0))
theorem restZero_iff (p : Page) : restZero p = true ↔ ∀ i, p.count.toNat ≤ i → ∀ x, p.words[i]? = some x → x = 0 := by
  unfold restZero
  rw [List.all_eq_true]
  constructor
  · intro h i hi x hx
    have : x ∈ p.words.drop p.count.toNat := by
      rw [List.mem_iff_getElem?]
      exact ⟨i - p.count.toNat, by rw [List.getElem?_drop, show p.count.toNat + (i - p.count.toNat) = i by omega]; exact hx⟩
    simpa using h x this
  · intro h x hx
    obtain ⟨i, hi⟩ := List.mem_iff_getElem?.1 hx
    rw [List.getElem?_drop] at hi
    simpa using h _ (by omega) x hi

/-- How the reference reads a node. -/
def refReadNode (p : Page) : Option Node :=
  if tagKind p.d0 ≠ 4 ∨ tagAux p.d0 / 262144 ≠ 0 ∨ 5 < p.count then none
  else if p.d1 / 4294967296 ≠ 0 ∧ validP (unpack (p.d1 / 4294967296)) = false then none
  else if restZero p = true ∧ refValid p.node = true then some p.node else none

theorem refReadNode_eq {p : Page} (hp : p.Ok) : refReadNode p = readNode p := by
  have hd1 := hp.d1
  have hv := refValid_eq p.node (by show 0 ≤ p.d1 % 4294967296; omega)
  unfold refReadNode readNode
  by_cases h1 : tagKind p.d0 ≠ 4
  · rw [if_pos (.inl h1), if_pos (.inl h1)]
  by_cases h2 : 5 < p.count
  · rw [if_pos (.inr (.inr h2)), if_pos (.inr h2)]
  rw [if_neg (c := tagKind p.d0 ≠ 4 ∨ 5 < p.count) (by rintro (h | h); exact h1 h; exact h2 h)]
  by_cases h4 : p.node.valid = true
  · have hs := fill_self hp (by omega) h4
    have h6 := (Node.valid_parts h4).2.2.2.2.2.1
    have hr : ¬ (p.d1 / 4294967296 ≠ 0 ∧ validP (unpack (p.d1 / 4294967296)) = false) := by
      rintro ⟨a, b⟩
      rcases h6 with h | h
      · exact a (unpack_nil (by omega) h)
      · rw [show p.node.right = unpack (p.d1 / 4294967296) from rfl, b] at h; cases h
    by_cases h3 : tagAux p.d0 / 262144 ≠ 0
    · rw [if_pos (.inr (.inl h3)), if_neg (fun h => h3 (hs.1 h.2).1)]
    · rw [if_neg (by rintro (h | h | h); exact h1 h; exact h3 h; exact h2 h), if_neg hr]
      have h3' : tagAux p.d0 / 262144 = 0 := by omega
      by_cases h5 : restZero p = true
      · rw [if_pos ⟨h5, by rw [hv]; exact h4⟩, if_pos ⟨h4, hs.2 ⟨h3', (restZero_iff p).1 h5⟩⟩]
      · rw [if_neg (fun h => h5 h.1), if_neg (fun h => h5 ((restZero_iff p).2 (hs.1 h.2).2))]
  · rw [if_neg (c := p.node.valid = true ∧ p.node.fill p = p) (fun h => h4 h.1)]
    split
    · rfl
    split
    · rfl
    rw [if_neg (fun h => h4 (by rw [← hv]; exact h.2))]
end Go.Proofs.YtjmpekanlmepmaaGreatDoor.Bt
