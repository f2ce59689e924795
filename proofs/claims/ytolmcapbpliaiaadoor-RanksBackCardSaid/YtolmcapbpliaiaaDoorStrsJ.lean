/- Lines and words of a text; what strings.Split at a newline, and strings.FieldsFunc at blanks and tabs, give, on plain values. Conditions: each law names its own. -/
import Derived.Test.YtolmcapbpliaiaaDoorStrsI
import Derived.Test.YtolmcapbpliaiaaDoorAbsY
namespace Go.Proofs.YtolmcapbpliaiaaDoor
open Go.Abs Go.RowKit
set_option linter.unusedVariables false

abbrev bs (l : List UInt8) : ByteArray := ⟨l.toArray⟩
theorem bs_data (s : ByteArray) : bs s.data.toList = s := by
  cases s with | mk d => simp [bs]
theorem data_bs (l : List UInt8) : (bs l).data.toList = l := by simp [bs]
theorem bs_size (l : List UInt8) : (bs l).size = l.length := by simp [bs, ByteArray.size]

/-- Cut at each byte c. -/
def cutB (c : UInt8) : List UInt8 → List (List UInt8)
  | [] => [[]]
  | b :: r => if b = c then [] :: cutB c r else match cutB c r with | h :: t => (b :: h) :: t | [] => [[b]]
theorem cutB_ne (c : UInt8) : ∀ l, cutB c l ≠ []
  | [] => by simp [cutB]
  | b :: r => by
    unfold cutB
    split
    · simp
    · split <;> simp
theorem cutB_cons_ne {c b : UInt8} {r h : List UInt8} {t : List (List UInt8)} (hb : b ≠ c) (e : cutB c r = h :: t) : cutB c (b :: r) = (b :: h) :: t := by
  simp only [cutB, if_neg hb, e]
theorem splitK_cut (c : UInt8) : ∀ l : List UInt8, Lib.splitK [c] 0 (l.count c) l = cutB c l
  | [] => by simp [Lib.splitK, cutB]
  | b :: r => by
    have ih := splitK_cut c r
    by_cases hb : b = c
    · subst hb
      rw [List.count_cons_self]
      have e : Lib.index (b :: r) [b] = 0 := by rw [Lib.index_one]; simp [Lib.indexByte]
      unfold Lib.splitK
      rw [e]
      simp only [Int.reduceNeg, Int.reduceBEq, Bool.false_eq_true, ↓reduceIte, Int.toNat_zero, List.take_zero, Nat.zero_add, List.length_cons, List.length_nil, List.drop_succ_cons, List.drop_zero, Nat.add_zero]
      rw [ih]
      simp [cutB]
    · have hc : (b :: r).count c = r.count c := by rw [List.count_cons_of_ne hb]
      rw [hc]
      cases hk : r.count c with
      | zero =>
        rw [hk] at ih
        rw [show Lib.splitK [c] 0 0 (b :: r) = [b :: r] from rfl]
        rw [show Lib.splitK [c] 0 0 r = [r] from rfl] at ih
        rw [cutB_cons_ne hb ih.symm]
      | succ k =>
        rw [hk] at ih
        have hin : c ∈ r := List.count_pos_iff.1 (by omega)
        have hge := Lib.indexByte_ge r c
        have e : Lib.index (b :: r) [c] = Lib.indexByte r c + 1 ∧ Lib.indexByte r c ≠ -1 := by
          rw [Lib.index_one]
          have hne : Lib.indexByte r c ≠ -1 := fun h => by
            have : ∀ l : List UInt8, Lib.indexByte l c = -1 → c ∉ l := fun l => by
              induction l with
              | nil => intro _; simp
              | cons a l ih =>
                intro h
                have hge := Lib.indexByte_ge l c
                unfold Lib.indexByte at h
                split at h
                · simp at h
                · rename_i hn
                  split at h
                  · rename_i h2
                    rw [List.mem_cons, not_or]
                    refine ⟨fun e => hn ?_, ih (by simpa using h2)⟩
                    simp [e]
                  · omega
            exact this r h hin
          refine ⟨?_, hne⟩
          rw [Lib.indexByte]
          rw [if_neg (by simpa using hb), if_neg (by simpa using hne)]
        have e2 : Lib.index r [c] = Lib.indexByte r c := Lib.index_one r c
        obtain ⟨i, hi⟩ : ∃ i : Nat, Lib.indexByte r c = (i : Int) := ⟨(Lib.indexByte r c).toNat, by omega⟩
        unfold Lib.splitK at ih ⊢
        rw [e2, hi, if_neg (by simp)] at ih
        rw [e.1, hi, if_neg (by simp; omega)]
        have e3 : ((i : Int) + 1).toNat = i + 1 := by omega
        rw [e3]
        simp only [Int.toNat_natCast, Nat.add_zero, List.length_cons, List.length_nil, Nat.zero_add, List.take_succ_cons, List.drop_succ_cons] at ih ⊢
        rw [cutB_cons_ne hb ih.symm]

/-- The lines of a text. -/
def cutL (s : ByteArray) : List ByteArray := (cutB 10 s.data.toList).map bs
theorem map_data_inj {l : List ByteArray} {m : List (List UInt8)} (h : l.map (·.data.toList) = m) : l = m.map bs := by
  rw [← h, List.map_map]
  conv => lhs; rw [← List.map_id l]
  exact List.map_congr_left fun s _ => (bs_data s).symm
theorem split_cut (s : ByteArray) : Lib.splitB ⟨#[10]⟩ 0 (Lib.countB s ⟨#[10]⟩) s = cutL s := by
  refine map_data_inj ?_
  rw [Lib.splitB_data]
  have e : Lib.countB s ⟨#[10]⟩ = s.data.toList.count 10 := by
    show Lib.count s.data.toList [10] = _
    exact Lib.count_one 10 _
  rw [e]
  exact splitK_cut 10 s.data.toList

theorem cutB_len (c : UInt8) : ∀ l, (cutB c l).length ≤ l.length + 1
  | [] => by simp [cutB]
  | b :: r => by
    have ih := cutB_len c r
    unfold cutB
    split
    · simp; omega
    · split
      · rename_i e; rw [e] at ih; simp at ih ⊢; omega
      · simp
theorem cutB_mem (c : UInt8) : ∀ l x, x ∈ cutB c l → x.length ≤ l.length
  | [], x, h => by simp [cutB] at h; subst h; simp
  | b :: r, x, h => by
    unfold cutB at h
    split at h
    · rcases List.mem_cons.1 h with rfl | h
      · simp
      · have := cutB_mem c r x h; simp; omega
    · split at h
      · rename_i hd t e
        rcases List.mem_cons.1 h with rfl | h
        · have := cutB_mem c r hd (by rw [e]; simp); simp; omega
        · have := cutB_mem c r x (by rw [e]; simp [h]); simp; omega
      · simp at h; subst h; simp

/-! ### Words -/
def isBl (b : UInt8) : Bool := b == 32 || b == 9
/-- The words of what is left, behind the one that is open. -/
def wordsGo : List UInt8 → List UInt8 → List (List UInt8)
  | cur, [] => if cur = [] then [] else [cur]
  | cur, b :: r => if isBl b = true then (if cur = [] then wordsGo [] r else cur :: wordsGo [] r) else wordsGo (cur ++ [b]) r
def wordsL (s : ByteArray) : List ByteArray := (wordsGo [] s.data.toList).map bs
theorem wordsGo_skip : ∀ (x cur r : List UInt8), (∀ b, b ∈ x → isBl b = false) → wordsGo cur (x ++ r) = wordsGo (cur ++ x) r
  | [], cur, r, _ => by simp
  | b :: x, cur, r, h => by
    have ih := wordsGo_skip x (cur ++ [b]) r fun c hc => h c (List.mem_cons_of_mem _ hc)
    rw [List.cons_append, wordsGo, if_neg (by rw [h b List.mem_cons_self]; simp), ih, List.append_assoc]
    rfl
theorem wordsGo_len : ∀ (l cur : List UInt8), (wordsGo cur l).length ≤ l.length + 1
  | [], cur => by unfold wordsGo; split <;> simp
  | b :: r, cur => by
    have h1 := wordsGo_len r []
    have h2 := wordsGo_len r (cur ++ [b])
    unfold wordsGo
    split
    · split
      · simp; omega
      · simp; omega
    · simp; omega
theorem wordsGo_mem : ∀ (l cur x : List UInt8), x ∈ wordsGo cur l → x.length ≤ cur.length + l.length ∧ x ≠ []
  | [], cur, x, h => by
    unfold wordsGo at h
    split at h
    · simp at h
    · rename_i hc
      simp at h; subst h; exact ⟨by simp, hc⟩
  | b :: r, cur, x, h => by
    unfold wordsGo at h
    split at h
    · split at h
      · have := wordsGo_mem r [] x h; exact ⟨by have := this.1; simp at this ⊢; omega, this.2⟩
      · rename_i hc
        rcases List.mem_cons.1 h with rfl | h
        · exact ⟨by simp, hc⟩
        · have := wordsGo_mem r [] x h; exact ⟨by have := this.1; simp at this ⊢; omega, this.2⟩
    · have := wordsGo_mem r (cur ++ [b]) x h; exact ⟨by have := this.1; simp at this ⊢; omega, this.2⟩

/-- The runes at which words end. -/
def pBl (r : Nat) : Bool := decide (r = 32) || decide (r = 9)
theorem decodeN_big {n b0 b1 b2 b3 : Nat} (h : ¬ b0 < 128) : 128 ≤ (Lib.decodeN n b0 b1 b2 b3).1 := by
  unfold Lib.decodeN
  rw [if_neg h]
  repeat' split
  all_goals (simp only; omega)
theorem decodeN_w {n b0 b1 b2 b3 : Nat} (h : ¬ b0 < 128) : ((Lib.decodeN n b0 b1 b2 b3).2 ≤ 1 ∨ 128 ≤ b1) ∧ ((Lib.decodeN n b0 b1 b2 b3).2 ≤ 2 ∨ 128 ≤ b2) ∧ ((Lib.decodeN n b0 b1 b2 b3).2 ≤ 3 ∨ 128 ≤ b3) ∧ (Lib.decodeN n b0 b1 b2 b3).2 ≤ 4 := by
  unfold Lib.decodeN
  rw [if_neg h]
  repeat' split
  all_goals (simp only; omega)
theorem rune_bytes (s : ByteArray) (pos j : Nat) (hp : pBl (Utf8.decode s pos).1 = false) (hj : j < (Utf8.decode s pos).2) : isBl (s.get! (pos + j)) = false := by
  rw [Lib.decode_at] at hp hj
  have big : ∀ b : UInt8, 128 ≤ b.toNat → isBl b = false := fun b hb => by
    unfold isBl
    rw [Bool.or_eq_false_iff]
    constructor <;> refine beq_eq_false_iff_ne.2 fun e => ?_ <;> subst e <;> simp at hb
  by_cases h0 : (s.get! pos).toNat < 128
  · rw [Lib.decodeN_ascii _ _ _ _ _ h0] at hp hj
    obtain rfl : j = 0 := by simp at hj; omega
    unfold pBl at hp
    unfold isBl
    simp only [Bool.or_eq_false_iff, decide_eq_false_iff_not] at hp ⊢
    refine ⟨beq_eq_false_iff_ne.2 fun e => hp.1 ?_, beq_eq_false_iff_ne.2 fun e => hp.2 ?_⟩ <;> rw [Nat.add_zero] at e <;> rw [e] <;> rfl
  · have hw := decodeN_w (n := s.size - pos) (b1 := (s.get! (pos + 1)).toNat) (b2 := (s.get! (pos + 2)).toNat) (b3 := (s.get! (pos + 3)).toNat) h0
    refine big _ ?_
    match j, hj with
    | 0, _ => rw [Nat.add_zero]; omega
    | 1, hj => omega
    | 2, hj => omega
    | 3, hj => omega
    | (j + 4), hj => omega
theorem blank_byte (s : ByteArray) (pos : Nat) (hp : pBl (Utf8.decode s pos).1 = true) : (Utf8.decode s pos).2 = 1 ∧ isBl (s.get! pos) = true := by
  rw [Lib.decode_at] at hp ⊢
  by_cases h0 : (s.get! pos).toNat < 128
  · rw [Lib.decodeN_ascii _ _ _ _ _ h0] at hp ⊢
    refine ⟨rfl, ?_⟩
    unfold pBl at hp
    unfold isBl
    simp only [Bool.or_eq_true, decide_eq_true_eq, beq_iff_eq] at hp ⊢
    rcases hp with h | h
    · exact .inl (UInt8.toNat_inj.1 h)
    · exact .inr (UInt8.toNat_inj.1 h)
  · have := decodeN_big (n := s.size - pos) (b1 := (s.get! (pos + 1)).toNat) (b2 := (s.get! (pos + 2)).toNat) (b3 := (s.get! (pos + 3)).toNat) h0
    unfold pBl at hp
    simp only [Bool.or_eq_true, decide_eq_true_eq] at hp
    omega
theorem drop_get (s : ByteArray) {pos : Nat} (h : pos < s.size) : s.data.toList.drop pos = s.get! pos :: s.data.toList.drop (pos + 1) := by
  have h1 : pos < s.data.toList.length := by rw [← Lib.size_eq]; exact h
  rw [List.drop_eq_getElem_cons h1]
  congr 1
  have := Lib.getD_get!' s pos
  rw [← this]
  simp [List.getD_eq_getElem?_getD, List.getElem?_eq_getElem h1]
theorem take_drop_bl (s : ByteArray) (pos k : Nat) (hk : pos + k ≤ s.size) (h : ∀ j, j < k → isBl (s.get! (pos + j)) = false) : ∀ b, b ∈ (s.data.toList.drop pos).take k → isBl b = false := by
  intro b hb
  obtain ⟨j, hj, rfl⟩ := List.getElem_of_mem hb
  simp only [List.length_take, List.length_drop] at hj
  have := h j (by omega)
  rw [← Lib.getD_get!'] at this
  have hlen : pos + j < s.data.toList.length := by rw [← Lib.size_eq]; omega
  simp only [List.getElem_take, List.getElem_drop]
  simpa [List.getD_eq_getElem?_getD, List.getElem?_eq_getElem hlen] using this
theorem spans_words (s : ByteArray) : ∀ (f pos : Nat) (st : Option Nat) (acc : List (Nat × Nat)), s.size ≤ pos + f → pos ≤ s.size → (∀ a, st = some a → a < pos) →
    acc.map (fun p => Lib.pieceU s.data.toList p.1 p.2) ++ wordsGo (Lib.openPiece s.data.toList st pos) (s.data.toList.drop pos) = (Lib.closeSpans s (Lib.spansFromP pBl s f pos st acc)).map (fun p => Lib.pieceU s.data.toList p.1 p.2) := by
  have fin : ∀ (st : Option Nat) (acc : List (Nat × Nat)), (∀ a, st = some a → a < s.size) → acc.map (fun p => Lib.pieceU s.data.toList p.1 p.2) ++ wordsGo (Lib.openPiece s.data.toList st s.size) (s.data.toList.drop s.size) = (Lib.closeSpans s (acc, st)).map (fun p => Lib.pieceU s.data.toList p.1 p.2) := by
    intro st acc hst
    have hd : s.data.toList.drop s.size = [] := List.drop_eq_nil_of_le (by rw [← Lib.size_eq]; exact Nat.le_refl _)
    rw [hd, wordsGo]
    cases st with
    | none => simp [Lib.closeSpans, Lib.openPiece]
    | some a =>
      have := Lib.pieceU_ne s.data.toList a s.size (hst a rfl) (by rw [← Lib.size_eq]; exact Nat.le_refl _)
      simp [Lib.closeSpans, Lib.openPiece, this]
  intro f
  induction f with
  | zero =>
    intro pos st acc h hp hst
    obtain rfl : pos = s.size := by omega
    exact fin st acc hst
  | succ f ih =>
    intro pos st acc h hp hst
    by_cases hlt : pos < s.size
    · have hw := Lib.width_pos s pos
      have hwn : pos + (Utf8.decode s pos).2 ≤ s.size := by
        have := Lib.decodeN_le_n' (s.size - pos) (s.get! pos).toNat (s.get! (pos + 1)).toNat (s.get! (pos + 2)).toNat (s.get! (pos + 3)).toNat (by omega)
        rw [← Lib.decode_at] at this
        omega
      simp only [Lib.spansFromP, if_pos hlt]
      cases hsp : pBl (Utf8.decode s pos).1 with
      | true =>
        obtain ⟨h1, h2⟩ := blank_byte s pos hsp
        rw [h1] at hwn
        simp only [if_true]
        rw [drop_get s hlt, wordsGo, if_pos h2, h1]
        cases st with
        | none =>
          have ih := ih (pos + 1) none acc (by omega) hwn (fun a h => by cases h)
          simpa [Lib.openPiece] using ih
        | some a =>
          have hpn := Lib.pieceU_ne s.data.toList a pos (hst a rfl) (by rw [← Lib.size_eq]; omega)
          have ih := ih (pos + 1) none (acc ++ [(a, pos)]) (by omega) hwn (fun a h => by cases h)
          simpa [Lib.openPiece, hpn] using ih
      | false =>
        simp only [Bool.false_eq_true, if_false]
        have hbl := take_drop_bl s pos _ hwn fun j hj => rune_bytes s pos j hsp hj
        have hsk := wordsGo_skip ((s.data.toList.drop pos).take (Utf8.decode s pos).2) (Lib.openPiece s.data.toList st pos) ((s.data.toList.drop pos).drop (Utf8.decode s pos).2) hbl
        rw [List.take_append_drop, List.drop_drop] at hsk
        rw [hsk]
        cases st with
        | none =>
          have ih := ih (pos + (Utf8.decode s pos).2) (some pos) acc (by omega) hwn (fun a h => by cases h; omega)
          have e : ([] : List UInt8) ++ (s.data.toList.drop pos).take (Utf8.decode s pos).2 = Lib.pieceU s.data.toList pos (pos + (Utf8.decode s pos).2) := by
            unfold Lib.pieceU
            rw [List.nil_append, Nat.add_sub_cancel_left]
          simp only [Lib.openPiece] at ih ⊢
          rw [e]
          exact ih
        | some a =>
          have ih := ih (pos + (Utf8.decode s pos).2) (some a) acc (by omega) hwn (fun b h => by cases h; have := hst a rfl; omega)
          simp only [Lib.openPiece] at ih ⊢
          rw [Lib.pieceU_grow _ _ _ _ (Nat.le_of_lt (hst a rfl))]
          exact ih
    · obtain rfl : pos = s.size := by omega
      rw [Lib.spansFromP_end pBl s _ _ _ _ hlt]
      exact fin st acc hst
theorem fields_words (s : ByteArray) : Lib.goFieldsP pBl s = wordsL s := by
  refine map_data_inj ?_
  have h := spans_words s s.size 0 none [] (by omega) (Nat.zero_le _) (fun a h => by cases h)
  simp only [List.map_nil, List.nil_append, Lib.openPiece, List.drop_zero] at h
  rw [h]
  unfold Lib.goFieldsP Lib.spansOfP
  rw [List.map_map]
  refine List.map_congr_left fun p _ => ?_
  simp [Lib.pieceU, Lib.extract_data]

/-! ### The contracts -/
theorem strs_flat (l : List ByteArray) : (l.flatMap fun s => [PV.str s]) = l.map PV.str := by induction l <;> simp_all
theorem rep_strs {w : World} {F : Nat → Prop} {b cap : Nat} {l : List ByteArray} (hF : F b) (hcap : l.length ≤ cap) (hm : l.length ≤ 281474976710656) (hs : ∀ x, x ∈ l → x.size ≤ 281474976710656)
    (hc : ∀ (k : Nat) (h1 : k < l.length), w.cell? ⟨b, k, none⟩ = some (.string l[k])) : Rep w F (.slice (some ⟨b, 0, none⟩) l.length cap) (.seq ByteArray ByteArray.empty (fun s => [.str s]) l) := by
  refine .seq ByteArray ByteArray.empty (fun s => [.str s]) l b 0 cap (l.map Value.string) hF hcap hm (by rw [strs_flat]; simp) ?_ ?_
  · intro k h1
    rw [Nat.zero_add]
    have hk : k < l.length := by simpa using h1
    rw [hc k hk]; simp
  · intro k h1 h2
    have hk : k < l.length := by simpa using h1
    simp only [strs_flat, List.getElem_map]
    exact .str _ (hs _ (List.getElem_mem _))
abbrev STRS (l : List ByteArray) : PV := .seq ByteArray ByteArray.empty (fun s => [.str s]) l

theorem Split_fc (s : ByteArray) (hs : s.size < 4294967281) : FC Tryd.prog 25 [.str s, .str ⟨#[10]⟩] (STRS (cutL s)) := by
  intro w vs F hF hr
  obtain ⟨x, xs, rfl, hx, hxs⟩ := hr.cons_inv
  obtain ⟨y, ys, rfl, hy, hys⟩ := hxs.cons_inv
  obtain rfl := hys.nil_inv
  obtain rfl := hx.str_inv
  obtain rfl := hy.str_inv
  have hlen := Lib.splitB_all ⟨#[10]⟩ (Nat.le_refl 1) 0 _ s rfl
  have hc := Tryd_split s 10 w hs
  rw [← hlen, split_cut] at hc
  refine Calls.mono hc ?_
  rintro e w' ⟨rfl, rfl⟩
  have hl := cutB_len 10 s.data.toList
  have hsz : s.data.toList.length = s.size := (Lib.size_eq s).symm
  have hcl : (cutL s).length = (cutB 10 s.data.toList).length := by simp [cutL]
  refine ⟨_, rfl, rep_strs (.inr ⟨Nat.le_refl _, by simp⟩) (Nat.le_refl _) (by omega) ?_ ?_, rfl, rfl, rfl, by simp, fun b hb => Go.RowKit.Below.heap_alloc _ _ _ hb⟩
  · intro x hx
    obtain ⟨l, hl, rfl⟩ := List.mem_map.1 hx
    have := cutB_mem 10 _ l hl
    rw [bs_size]; omega
  · intro k h1
    rw [World.cell?_alloc_at _ _ _ _ rfl]
    simp [h1]

theorem FieldsFunc_fc (s : ByteArray) (hs : s.size ≤ 4294967296) : FC Tryd.prog 26 [.str s, .clo 27 []] (STRS (wordsL s)) := by
  intro w vs F hF hr
  obtain ⟨x, xs, rfl, hx, hxs⟩ := hr.cons_inv
  obtain ⟨y, ys, rfl, hy, hys⟩ := hxs.cons_inv
  obtain rfl := hys.nil_inv
  obtain rfl := hx.str_inv
  obtain rfl : y = .func (.func 27) #[] #[] := by
    cases hy with
    | clo _ zs _ hl hr =>
      have : zs = [] := List.eq_nil_of_length_eq_zero (by simpa using hl)
      subst this; rfl
  have hc := Tryd_fieldsFunc 27 #[] Tryd.call27 pBl s w hs (fun W x hx _ => Tryd_blank x W)
  rw [fields_words] at hc
  refine Calls.mono hc ?_
  rintro e w' ⟨A, rfl, hA, hown, hB⟩
  have hl := wordsGo_len s.data.toList []
  have hsz : s.data.toList.length = s.size := (Lib.size_eq s).symm
  have hcl : (wordsL s).length = (wordsGo [] s.data.toList).length := by simp [wordsL]
  have hlt : A < w'.heap.size := by
    rcases hown.2 with ⟨h, _⟩ | ⟨g, cap, cur, hv, _, hg, _⟩
    · cases h
    · simp only [Value.slice.injEq, Option.some.injEq, Addr.mk.injEq] at hv
      obtain ⟨⟨rfl, _⟩, _⟩ := hv
      exact (Array.getElem?_eq_some_iff.1 hg).1
  refine ⟨_, rfl, rep_strs (.inr ⟨hA, hlt⟩) (Nat.le_refl _) (by omega) ?_ ?_, hB.os, hB.tape, hB.output, hB.size, hB.block⟩
  · intro x hx
    obtain ⟨l, hl, rfl⟩ := List.mem_map.1 hx
    have := (wordsGo_mem _ _ l hl).1
    rw [bs_size]; simp at this; omega
  · intro k h1
    have := hown.cells (g := A) rfl k (.string (wordsL s)[k]) (by simp [h1])
    rwa [Addr.add_lit, Nat.zero_add] at this
end Go.Proofs.YtolmcapbpliaiaaDoor
