/- Part L: what is made of two frames, in plain Lean. -/
import Derived.Test.YtcajggnllnibpaaDoorConI
namespace Go.Proofs.YtcajggnllnibpaaDoor

theorem bytesLess_asymm : ∀ a b : List UInt8, Op.bytesLess a b = true → Op.bytesLess b a = false
  | [], [], h => by simp [Op.bytesLess] at h
  | [], _ :: _, _ => by simp [Op.bytesLess]
  | _ :: _, [], h => by simp [Op.bytesLess] at h
  | x :: xs, y :: ys, h => by
    simp only [Op.bytesLess, Bool.or_eq_true, Bool.and_eq_true, decide_eq_true_eq, beq_iff_eq] at h
    simp only [Op.bytesLess, Bool.or_eq_false_iff, Bool.and_eq_false_iff, decide_eq_false_iff_not]
    rcases h with h | ⟨rfl, h⟩
    · exact ⟨fun h2 => absurd (UInt8.lt_trans h h2) (UInt8.lt_irrefl _), .inl (by simpa using fun e : y = x => (UInt8.lt_irrefl x) (e ▸ h))⟩
    · exact ⟨UInt8.lt_irrefl _, .inr (bytesLess_asymm xs ys h)⟩
theorem Frame.less_asymm {f g : Frame} (h : f.less g = true) : g.less f = false := by
  simp only [Frame.less, Bool.and_eq_true] at h
  simp only [Frame.less, h.1.1, h.1.2, Bool.and_self, Bool.true_and]
  exact bytesLess_asymm _ _ h.2
theorem Box.ahead_asymm {a b : Box} (h : a.ahead b = true) : b.ahead a = false := by
  simp only [Box.ahead, Bool.or_eq_true, Bool.and_eq_true, Bool.not_eq_true', decide_eq_true_eq] at h
  simp only [Box.ahead, Bool.or_eq_false_iff, Bool.and_eq_false_iff, Bool.not_eq_false', decide_eq_false_iff_not]
  rcases h with h | ⟨h1, h2⟩
  · exact ⟨Frame.less_asymm h, .inl h⟩
  · exact ⟨h1, .inr (by omega)⟩

section
variable (f g : Frame)
def b1 : Box := ⟨1, f, 0⟩
def b2 : Box := ⟨2, g, 1⟩
def X0 : If := ⟨⟨none, 0, 4⟩, -1, false, 0, 0⟩
def X1 : If := ⟨⟨none, 0, 4⟩, -1, true, 0, 0⟩
def X2 : If := ⟨⟨some [b1 f], 1, 4⟩, -1, true, 0, 0⟩
/-- Both boxes, the one that wins first. -/
def two : Box × Box := if (b2 g).ahead (b1 f) then (b2 g, b1 f) else (b1 f, b2 g)
def X3 : If := ⟨⟨some [(two f g).1, (two f g).2], 2, 4⟩, -1, true, 0, 0⟩
def Y : If := ⟨⟨some [(two f g).2], 2, 4⟩, (two f g).1.handle, true, 0, 0⟩

theorem new_X0 : ifNew 4 = (X0, 0) := by simp [ifNew, boxNew, X0]
theorem right_X0 : X0.right = true := by decide
theorem right_X1 : X1.right = true := by decide
theorem next_X0 : ifNext X0 false .zero = (X0, (false, .zero), 0) := by rw [ifNext, if_pos right_X0]; rfl
theorem go_X0 : ifGo X0 true = (X1, 0) := by rw [ifGo, if_pos right_X0]; rfl

theorem ahead_self (x : Box) : x.ahead x = false := by
  cases h : x.ahead x
  · rfl
  · rw [← h]; exact Box.ahead_asymm h
variable {f g}
theorem two_ahead (f g : Frame) : (two f g).2.ahead (two f g).1 = false := by
  unfold two
  split
  · rename_i h; exact Box.ahead_asymm h
  · rename_i h; simpa using h
theorem two_ok (hf : f.right = true) (hg : g.right = true) : ((two f g).1.frame.right = true ∧ (two f g).2.frame.right = true) ∧ (((two f g).1.handle = 1 ∧ (two f g).1.seq = 0 ∧ (two f g).2.handle = 2 ∧ (two f g).2.seq = 1) ∨ ((two f g).1.handle = 2 ∧ (two f g).1.seq = 1 ∧ (two f g).2.handle = 1 ∧ (two f g).2.seq = 0)) := by
  unfold two
  split <;> simp [b1, b2, hf, hg]
theorem right_b1 (hf : f.right = true) : (Boxes.mk (some [b1 f]) 1 4).right = true := by
  simp [Boxes.right, Boxes.head, Boxes.list, okAt, List.range_succ, b1, hf]
theorem right_X2 (hf : f.right = true) : (X2 f).right = true := by
  simp [If.right, If.rightA, X2, right_b1 hf]
theorem right_bX3 (hf : f.right = true) (hg : g.right = true) : (Boxes.mk (some [(two f g).1, (two f g).2]) 2 4).right = true := by
  obtain ⟨⟨r1, r2⟩, h | h⟩ := two_ok hf hg
  all_goals
    obtain ⟨h1, h2, h3, h4⟩ := h
    simp [Boxes.right, Boxes.head, Boxes.list, okAt, List.range_succ, r1, r2, h1, h2, h3, h4, two_ahead]
theorem right_X3 (hf : f.right = true) (hg : g.right = true) : (X3 f g).right = true := by
  simp [If.right, If.rightA, X3, right_bX3 hf hg]
theorem right_bY (hf : f.right = true) (hg : g.right = true) : (Boxes.mk (some [(two f g).2]) 2 4).right = true := by
  obtain ⟨⟨r1, r2⟩, h | h⟩ := two_ok hf hg
  all_goals
    obtain ⟨h1, h2, h3, h4⟩ := h
    simp [Boxes.right, Boxes.head, Boxes.list, okAt, List.range_succ, r1, r2, h1, h2, h3, h4]
theorem right_Y (hf : f.right = true) (hg : g.right = true) : (Y f g).right = true := by
  obtain ⟨⟨r1, r2⟩, h | h⟩ := two_ok hf hg
  all_goals
    obtain ⟨h1, h2, h3, h4⟩ := h
    simp [If.right, If.rightA, Y, right_bY hf hg, h1]
theorem send_1 (hf : f.right = true) : ifSend X1 1 f = (X2 f, 0) := by
  have : boxPut X1.boxes 1 f = (⟨some [b1 f], 1, 4⟩, 0) := by
    rw [boxPut, if_neg (by rw [show X1.boxes.right = true by decide]; simp [X1, hf]), if_neg (by simp [X1, Boxes.list])]
    simp [X1, Boxes.list, heapUp, b1]
  rw [ifSend, if_pos right_X1, if_pos (show X1.on = true from rfl), this]
  rfl
theorem send_2 (hf : f.right = true) (hg : g.right = true) : ifSend (X2 f) 2 g = (X3 f g, 0) := by
  have : boxPut (X2 f).boxes 2 g = (⟨some [(two f g).1, (two f g).2], 2, 4⟩, 0) := by
    rw [boxPut, if_neg (by simp only [X2]; rw [right_b1 hf]; simp [hg]), if_neg (by simp [X2, Boxes.list])]
    simp only [X2, Boxes.list, Option.getD_some, List.length_cons, List.length_nil, Nat.zero_add, List.cons_append, List.nil_append]
    congr 2
    congr 1
    unfold two
    rw [show (⟨2, g, 1⟩ : Box) = b2 g from rfl]
    cases h : (b2 g).ahead (b1 f)
    · simp [heapUp, bAt, h]
    · simp [heapUp, bAt, h, swapB]
  rw [ifSend, if_pos (right_X2 hf), if_pos (show (X2 f).on = true from rfl), this]
  rfl
theorem next_X3 (hf : f.right = true) (hg : g.right = true) : ifNext (X3 f g) false .zero = (Y f g, (true, (two f g).1.frame), 0) := by
  have : boxTake (X3 f g).boxes = (⟨some [(two f g).2], 2, 4⟩, (two f g).1, 0) := by
    rw [boxTake, if_pos (by simp only [X3]; exact right_bX3 hf hg), if_neg (by simp [X3, Boxes.list])]
    simp [X3, Boxes.list, heapPop, heapDown, swapB, bAt]
  rw [ifNext, if_pos (right_X3 hf hg), if_neg (by simp [X3, Boxes.list]), this]
  rfl
theorem next_Y (hf : f.right = true) (hg : g.right = true) (hc : Bool) (fc : Frame) : ifNext (Y f g) hc fc = (Y f g, (hc, fc), 0) := by
  have : (Y f g).has ≠ -1 := by
    obtain ⟨⟨r1, r2⟩, h | h⟩ := two_ok hf hg
    all_goals
      obtain ⟨h1, h2, h3, h4⟩ := h
      simp [Y, h1]
  rw [ifNext, if_pos (right_Y hf hg), if_pos (by simp [this])]
end
end Go.Proofs.YtcajggnllnibpaaDoor
