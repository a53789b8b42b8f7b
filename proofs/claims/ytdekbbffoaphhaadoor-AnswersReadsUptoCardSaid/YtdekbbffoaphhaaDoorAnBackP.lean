/- An event's line is read as that event. -/
import Derived.Test.YtdekbbffoaphhaaDoorAnNumP
import Derived.Test.YtdekbbffoaphhaaDoorAnRead
import Derived.Test.YtdekbbffoaphhaaDoorAnOnlyP
set_option linter.unusedVariables false
set_option linter.unusedSimpArgs false
namespace Go.Proofs.An
/-- No blank and no line's end in it. -/
def Clean (s : ByteArray) : Prop := ∀ c ∈ s.data.toList, c ≠ 32 ∧ c ≠ 10
theorem itB_clean (n : Int) : Clean (itB n) := fun c hc => by
  have := itoa_chars n c (by simpa [itB] using hc)
  constructor
  · rintro rfl
    have e : (32 : UInt8).toNat = 32 := rfl
    omega
  · rintro rfl
    have e : (10 : UInt8).toNat = 10 := rfl
    omega
theorem stW_clean (n : Int) : Clean (stW n) := by
  unfold stW Clean
  repeat' split
  all_goals decide
theorem allW_clean (l : List Int) : ∀ s ∈ allW l, Clean s := fun s hs => by
  obtain ⟨n, -, rfl⟩ := List.mem_map.1 hs
  exact itB_clean n
theorem cut_words : ∀ (ws : List ByteArray), ws ≠ [] → (∀ s ∈ ws, Clean s) → cutC 32 (wordsT ws) = ws.map (·.data.toList)
  | [], h, _ => absurd rfl h
  | [s], _, h => by
    simp only [wordsT, List.flatMap_nil, List.append_nil, List.map_cons, List.map_nil]
    exact cut_one 32 _ (fun hc => (h s (by simp) 32 hc).1 rfl)
  | s :: t :: r, _, h => by
    have e : wordsT (s :: t :: r) = s.data.toList ++ 32 :: wordsT (t :: r) := by simp [wordsT]
    rw [e, cut_app 32 _ _ (fun hc => (h s (by simp) 32 hc).1 rfl), cut_words (t :: r) (by simp) (fun x hx => h x (List.mem_cons_of_mem _ hx))]
    rfl
theorem words_back {ws : List ByteArray} (h : ws ≠ []) (hc : ∀ s ∈ ws, Clean s) : wordsC 32 (toB (wordsT ws)) = ws := by
  unfold wordsC
  rw [toB_data, cut_words ws h hc, List.map_map]
  simp [Function.comp_def]
theorem wordsOf_eq (s : ByteArray) : wordsOf s = wordsC 32 s := wordsC_split 32 s
theorem nums_back : ∀ (l : List Int), Fits l → numsW (allW l) = some l
  | [], _ => rfl
  | n :: l, h => by
    have h1 := h n (List.mem_cons_self ..)
    show numsW (itB n :: allW l) = _
    simp only [numsW]
    rw [show numW (itB n) = some n from numW_back h1.1 h1.2, nums_back l (fun m hm => h m (List.mem_cons_of_mem _ hm))]
theorem onlyW_ne {e : Ev} (h : right e = true) : onlyW e ≠ [] := by
  rcases kinds7 h with hk | hk | hk | hk | hk | hk | hk <;> simp [onlyW, hk]
theorem onlyW_clean {e : Ev} (h : right e = true) : ∀ s ∈ onlyW e, Clean s := by
  intro s hs
  rcases kinds7 h with hk | hk | hk | hk | hk | hk | hk <;> simp only [onlyW, hk] at hs
  · rw [if_pos trivial] at hs
    rcases List.mem_cons.1 hs with rfl | hs
    · unfold Clean; decide
    · exact allW_clean _ s hs
  · rw [if_neg (by decide), if_pos trivial] at hs
    rcases List.mem_cons.1 hs with rfl | hs
    · unfold Clean; decide
    · exact allW_clean _ s hs
  · rw [if_neg (by decide), if_neg (by decide), if_pos trivial] at hs
    rcases List.mem_cons.1 hs with rfl | hs
    · unfold Clean; decide
    · rcases List.mem_append.1 hs with hs | hs
      · exact allW_clean _ s hs
      · rw [List.mem_singleton.1 hs]; exact stW_clean _
  · rw [if_neg (by decide), if_neg (by decide), if_neg (by decide), if_pos trivial] at hs
    rcases List.mem_cons.1 hs with rfl | hs
    · unfold Clean; decide
    · exact allW_clean _ s hs
  · rw [if_neg (by decide), if_neg (by decide), if_neg (by decide), if_neg (by decide), if_pos trivial] at hs
    rcases List.mem_cons.1 hs with rfl | hs
    · unfold Clean; decide
    · exact allW_clean _ s hs
  · rw [if_neg (by decide), if_neg (by decide), if_neg (by decide), if_neg (by decide), if_neg (by decide), if_pos trivial] at hs
    rcases List.mem_cons.1 hs with rfl | hs
    · unfold Clean; decide
    · exact allW_clean _ s hs
  · rw [if_neg (by decide), if_neg (by decide), if_neg (by decide), if_neg (by decide), if_neg (by decide), if_neg (by decide), if_pos trivial] at hs
    rcases List.mem_cons.1 hs with rfl | hs
    · unfold Clean; decide
    · exact allW_clean _ s hs
theorem fitsC {n : Int} {l : List Int} (h : -9223372036854775808 ≤ n ∧ n ≤ 9223372036854775807) (hl : Fits l) : Fits (n :: l) := fun m hm => by
  rcases List.mem_cons.1 hm with rfl | hm
  · exact h
  · exact hl m hm
theorem fits0 : Fits [] := fun n hn => by simp at hn
theorem none_list {e : Ev} (h : noneB e = true) : e.list = [] := by
  simp only [noneB, beq_iff_eq] at h
  exact List.eq_nil_of_length_eq_zero h
theorem stN_back {n : Int} (h0 : 3 ≤ n) (h1 : n ≤ 6) : stN (stW n) = n := by
  have : n = 3 ∨ n = 4 ∨ n = 5 ∨ n = 6 := by omega
  rcases this with rfl | rfl | rfl | rfl <;> decide
theorem cand_back {e : Ev} (h : right e = true) (hok : EvOk e) : candW (onlyW e) = some e := by
  have hk7 := kinds7 h
  obtain ⟨k, j, t, n, m, l⟩ := e
  obtain ⟨h1, h2, h3, h4, h5, -⟩ := hok
  simp only [right, Bool.and_eq_true] at h
  obtain ⟨h, -⟩ := h
  rcases hk7 with hk | hk | hk | hk | hk | hk | hk <;> simp only at hk h1 h2 h3 h4 h5 <;> subst hk
  · rw [okK_1 rfl] at h
    have hl : l = [] := none_list h
    subst hl
    have hn : numsW (allW [j, t, n, m]) = some [j, t, n, m] := nums_back _ (fitsC h1 (fitsC h2 (fitsC h3 (fitsC h4 fits0))))
    have e1 : onlyW ⟨1, j, t, n, m, []⟩ = submitB :: allW [j, t, n, m] := rfl
    have e2 : cutEnd (submitB :: allW [j, t, n, m]) = (submitB :: allW [j, t, n, m], 0) := by unfold cutEnd; rw [if_neg (by simp only [List.headD_cons]; decide)]
    unfold candW
    rw [e1, e2]
    simp only [List.drop_succ_cons, List.drop_zero]
    rw [hn]
    rfl
  · rw [okK_2 rfl] at h
    simp only [bareB, Bool.and_eq_true, beq_iff_eq] at h
    obtain ⟨⟨rfl, rfl⟩, -⟩ := h
    have hn : numsW (allW ([j, t] ++ l)) = some (j :: t :: l) := nums_back _ (fitsC h1 (fitsC h2 h5))
    have e1 : onlyW ⟨2, j, t, 0, 0, l⟩ = startB :: allW ([j, t] ++ l) := rfl
    have e2 : cutEnd (startB :: allW ([j, t] ++ l)) = (startB :: allW ([j, t] ++ l), 0) := by unfold cutEnd; rw [if_neg (by simp only [List.headD_cons]; decide)]
    unfold candW
    rw [e1, e2]
    simp only [List.drop_succ_cons, List.drop_zero]
    rw [hn]
    simp only [evOf]
    rw [show hdOf startB 0 = (2, 2, 0) from rfl, if_neg (by simp only [List.length_cons]; omega)]
    rfl
  · rw [okK_3 rfl] at h
    simp only [Bool.and_eq_true, beq_iff_eq, decide_eq_true_eq] at h
    obtain ⟨⟨⟨g1, g2⟩, rfl⟩, g3⟩ := h
    have hl : l = [] := none_list g3
    subst hl
    have hn : numsW (allW [j, t]) = some [j, t] := nums_back _ (fitsC h1 (fitsC h2 fits0))
    have e1 : onlyW ⟨3, j, t, n, 0, []⟩ = [endB, itB j, itB t, stW n] := rfl
    have e2 : cutEnd [endB, itB j, itB t, stW n] = (endB :: allW [j, t], n) := by
      unfold cutEnd
      rw [if_pos (by rfl)]
      congr 1
      exact stN_back g1 g2
    unfold candW
    rw [e1, e2]
    simp only [List.drop_succ_cons, List.drop_zero]
    rw [hn]
    rfl
  · rw [okK_4 rfl] at h
    simp only [bareB, Bool.and_eq_true, beq_iff_eq] at h
    obtain ⟨⟨rfl, rfl⟩, g⟩ := h
    have hl : l = [] := none_list g
    subst hl
    have hn : numsW (allW [j, t]) = some [j, t] := nums_back _ (fitsC h1 (fitsC h2 fits0))
    have e1 : onlyW ⟨4, j, t, 0, 0, []⟩ = pinB :: allW [j, t] := rfl
    have e2 : cutEnd (pinB :: allW [j, t]) = (pinB :: allW [j, t], 0) := by unfold cutEnd; rw [if_neg (by simp only [List.headD_cons]; decide)]
    unfold candW
    rw [e1, e2]
    simp only [List.drop_succ_cons, List.drop_zero]
    rw [hn]
    rfl
  · rw [okK_5 rfl] at h
    simp only [bareB, Bool.and_eq_true, beq_iff_eq] at h
    obtain ⟨⟨⟨rfl, rfl⟩, rfl⟩, -⟩ := h
    have hn : numsW (allW ([t] ++ l)) = some (t :: l) := nums_back _ (fitsC h2 h5)
    have e1 : onlyW ⟨5, 0, t, 0, 0, l⟩ = passB :: allW ([t] ++ l) := rfl
    have e2 : cutEnd (passB :: allW ([t] ++ l)) = (passB :: allW ([t] ++ l), 0) := by unfold cutEnd; rw [if_neg (by simp only [List.headD_cons]; decide)]
    unfold candW
    rw [e1, e2]
    simp only [List.drop_succ_cons, List.drop_zero]
    rw [hn]
    simp only [evOf]
    rw [show hdOf passB 0 = (5, 1, 0) from rfl, if_neg (by simp only [List.length_cons]; omega)]
    rfl
  · rw [okK_6 (.inl rfl)] at h
    simp only [bareB, Bool.and_eq_true, beq_iff_eq] at h
    obtain ⟨⟨⟨rfl, rfl⟩, rfl⟩, g⟩ := h
    have hl : l = [] := none_list g
    subst hl
    have hn : numsW (allW [t]) = some [t] := nums_back _ (fitsC h2 fits0)
    have e1 : onlyW ⟨6, 0, t, 0, 0, []⟩ = tickB :: allW [t] := rfl
    have e2 : cutEnd (tickB :: allW [t]) = (tickB :: allW [t], 0) := by unfold cutEnd; rw [if_neg (by simp only [List.headD_cons]; decide)]
    unfold candW
    rw [e1, e2]
    simp only [List.drop_succ_cons, List.drop_zero]
    rw [hn]
    rfl
  · rw [okK_6 (.inr rfl)] at h
    simp only [bareB, Bool.and_eq_true, beq_iff_eq] at h
    obtain ⟨⟨⟨rfl, rfl⟩, rfl⟩, g⟩ := h
    have hl : l = [] := none_list g
    subst hl
    have hn : numsW (allW [t]) = some [t] := nums_back _ (fitsC h2 fits0)
    have e1 : onlyW ⟨7, 0, t, 0, 0, []⟩ = decayB :: allW [t] := rfl
    have e2 : cutEnd (decayB :: allW [t]) = (decayB :: allW [t], 0) := by unfold cutEnd; rw [if_neg (by simp only [List.headD_cons]; decide)]
    unfold candW
    rw [e1, e2]
    simp only [List.drop_succ_cons, List.drop_zero]
    rw [hn]
    rfl
theorem evS_words {e : Ev} (h : right e = true) : evS e = toB (wordsT (onlyW e)) := by
  unfold evS
  rw [if_pos h, onlyW_text h]
theorem evS_cut {e : Ev} (h : right e = true) : wordsC 32 (evS e) = onlyW e := by
  rw [evS_words h, words_back (onlyW_ne h) (onlyW_clean h)]
theorem read_back {e : Ev} (h : right e = true) (hok : EvOk e) : readE (evS e) = (e, 0) := by
  unfold readE
  rw [wordsOf_eq, evS_cut h, cand_back h hok]
  simp only
  rw [if_pos ⟨h, trivial⟩]
theorem read_sound {s : ByteArray} (h : (readE s).2 = 0) : right (readE s).1 = true ∧ evS (readE s).1 = s := by
  unfold readE at h ⊢
  cases hc : candW (wordsOf s) with
  | none => rw [hc] at h; simp at h
  | some e =>
    rw [hc] at h
    simp only at h ⊢
    split at h
    · rename_i hh
      rw [if_pos hh]; exact hh
    · simp at h
end Go.Proofs.An
