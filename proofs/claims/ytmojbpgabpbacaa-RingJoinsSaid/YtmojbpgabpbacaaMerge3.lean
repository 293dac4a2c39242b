/- The stable sort: symMerge. -/
import Derived.Test.YtmojbpgabpbacaaMerge2
import Derived.Deep.DeepCutAuto
import Derived.Deep.CutBlock
namespace Go.Proofs.Ytmojbpgabpbacaa
open Go.RowKit

def Less (X Y : List Tg) (i j : Nat) : Prop := ∃ (hi : i < X.length) (hj : j < Y.length), (Y[j]).1.token < (X[i]).1.token
def NLess (X Y : List Tg) (i j : Nat) : Prop := ∃ (hi : i < X.length) (hj : j < Y.length), ¬ (Y[j]).1.token < (X[i]).1.token
theorem cross_yx {X Y : List Tg} {i j : Nat} (hX : Srt X) (hY : Srt Y) (h : Less X Y i j) : ∀ y ∈ Y.take (j + 1), ∀ x ∈ X.drop i, L y x := by
  obtain ⟨hi, hj, hl⟩ := h
  intro y hy x hx
  have h1 : L y X[i] := Low.step hj hY (L.of_less hl) y hy
  rw [List.drop_eq_getElem_cons hi, List.mem_cons] at hx
  rcases hx with rfl | hx
  · exact h1
  · exact h1.trans (drop_first X hi hX x hx)
theorem cross_xy {X Y : List Tg} {i j : Nat} (hX : Srt X) (hY : Srt Y) (hap : Apart X Y) (h : NLess X Y i j) : ∀ x ∈ X.take (i + 1), ∀ y ∈ Y.drop j, L x y := by
  obtain ⟨hi, hj, hl⟩ := h
  intro x hx y hy
  have h1 : L x Y[j] := Low.step hi hX (L.of_not hl (hap _ (List.getElem_mem hi) _ (List.getElem_mem hj))) x hx
  rw [List.drop_eq_getElem_cons hj, List.mem_cons] at hy
  rcases hy with rfl | hy
  · exact h1
  · exact h1.trans (drop_first Y hj hY y hy)

def codeTail : Code → Nat → Code
  | .seq _ r, n + 1 => codeTail r n
  | c, _ => c
set_option maxRecDepth 100000 in
set_option maxHeartbeats 12800000 in
theorem symTail3_w (n : Nat) (IH : Hid (∀ (w : World) (blk : Nat) (sp : List Value) (cp : Nat) (A X Y B : List Tg) (a m b Ln : Nat), X.length + Y.length ≤ n → A.length = a → a + X.length = m → m + Y.length = b → b + B.length = Ln → Ln ≤ 1000000 →
    0 < X.length → 0 < Y.length → Srt X → Srt Y → Apart X Y → PRow w blk sp (pl (A ++ (X ++ (Y ++ B)))) →
    Calls Try.prog 132 #[.slice (some ⟨blk, 0, none⟩) Ln cp, vInt a, vInt m, vInt b, vCmp] w fun r w' => r = .returned vUnit ∧ ∃ Z : List Tg, Z.Perm (X ++ Y) ∧ Srt Z ∧ PRow w' blk sp (pl (A ++ (Z ++ B))) ∧ Ch [blk] w w'))
    (w : World) (blk : Nat) (sp : List Value) (cp : Nat) (A X Y B : List Tg) (a m b Ln md e : Nat) (K : Ending → World → Prop) (hn : X.length + Y.length ≤ n) (hA : A.length = md) (hX' : md + X.length = e) (hY' : e + Y.length = b) (hL : b + B.length = Ln) (hbig : Ln ≤ 1000000)
    (hX : Srt X) (hY : Srt Y) (hap : Apart X Y) (hr : PRow w blk sp (pl (A ++ (X ++ (Y ++ B)))))
    (hK : Hid (∀ (Z : List Tg) (wz : World), Z.Perm (X ++ Y) → Srt Z → PRow wz blk sp (pl (A ++ (Z ++ B))) → Ch [blk] w wz → K (.returned vUnit) wz)) (u5 u6 u7 u8 u9 u10 u11 u12 u13 u14 u15 u16 u17 u19 u20 u21 u22 u23 u25 u26 u27 u28 u29 u30 u31 u32 u33 u34 u35 u36 u37 u38 u39 u40 u41 u42 u43 u44 u45 u46 u47 u48 u49 u50 u51 u52 u53 u54 u55 u56 u57 u58 u59 u60 u61 u62 u63 u64 u65 u66 u67 u68 u69 u70 u71 u72 u73 u74 u75 u76 u77 u78 u79 u80 u81 u82 u83 u84 u85 u86 u87 u88 u89 u90 u91 u92 u93 u94 u95 u96 u97 u98 u99 u100 u101 u102 u103 u104 u105 u106 u107 u108 u109 u110 u111 u112 u113 u114 u115 u116 u117 u118 u119 u120 u121 u122 u123 u124 u125 u126 u127 u128 u129 u130 u131 u132 u133 u134 u135 u136 u137 u138 u139 u140 u141 u142 u143 u144 u145 u146 u147 u148 u149 u150 u151 u152 u153 u154 u155 u156 u157 u158 u159 u160 u161 u162 u163 u164 u165 u166 u167 u168 u169 u170 u171 u172 u173 u174 u175 u176 u177 u178 u179 u180 u181 u182 u183 u184 u185 u186 u187 u188 u189 u190 u191 u192 u193 u194 u195 u196 u197 u198 u199 u200 u201 u202 u203 u204 u205 u206 u207 u208 u209 u210 u211 u212 u213 u214 u215 u216 u217 u218 u219 : Value) :
    Code.wp Try.prog (codeTail (Try.f132.body.getD .skip) 11) (bodyPost Try.prog Try.f132 K) { tmps := #[.slice (some ⟨blk, 0, none⟩) Ln cp, vInt a, vInt m, vInt b, vCmp, u5, u6, u7, u8, u9, u10, u11, u12, u13, u14, u15, u16, u17, vInt md, u19, u20, u21, u22, u23, vInt e, u25, u26, u27, u28, u29, u30, u31, u32, u33, u34, u35, u36, u37, u38, u39, u40, u41, u42, u43, u44, u45, u46, u47, u48, u49, u50, u51, u52, u53, u54, u55, u56, u57, u58, u59, u60, u61, u62, u63, u64, u65, u66, u67, u68, u69, u70, u71, u72, u73, u74, u75, u76, u77, u78, u79, u80, u81, u82, u83, u84, u85, u86, u87, u88, u89, u90, u91, u92, u93, u94, u95, u96, u97, u98, u99, u100, u101, u102, u103, u104, u105, u106, u107, u108, u109, u110, u111, u112, u113, u114, u115, u116, u117, u118, u119, u120, u121, u122, u123, u124, u125, u126, u127, u128, u129, u130, u131, u132, u133, u134, u135, u136, u137, u138, u139, u140, u141, u142, u143, u144, u145, u146, u147, u148, u149, u150, u151, u152, u153, u154, u155, u156, u157, u158, u159, u160, u161, u162, u163, u164, u165, u166, u167, u168, u169, u170, u171, u172, u173, u174, u175, u176, u177, u178, u179, u180, u181, u182, u183, u184, u185, u186, u187, u188, u189, u190, u191, u192, u193, u194, u195, u196, u197, u198, u199, u200, u201, u202, u203, u204, u205, u206, u207, u208, u209, u210, u211, u212, u213, u214, u215, u216, u217, u218, u219], defers := [] } w := by
  conv in codeTail _ _ => (unfold Try.f132; dsimp only [Option.getD, codeTail])
  dsimp only
  by_cases g : md < e
  · have g1 : (md : Int) < e := by omega
    by_cases g' : e < b
    · have g2 : (e : Int) < b := by omega
      go_wp2_with (go_at_call 132; refine (IH.out _ blk sp cp A X Y B md e b Ln hn hA hX' hY' hL hbig (by omega) (by omega) hX hY hap hr).mono ?_; rintro e w' ⟨rfl, Z2, y1, y2, y3, y4⟩)
      go_end0
      exact hK.out Z2 _ y1 y2 y3 y4
    · have g2 : decide ((e : Int) < b) = false := decide_eq_false (by omega)
      obtain rfl : Y = [] := List.eq_nil_of_length_eq_zero (by omega)
      go_wp2
      go_end0
      exact hK.out X _ (by rw [List.append_nil]) hX (by simpa only [List.nil_append] using hr) (Ch.refl _ _)
  · have g1 : decide ((md : Int) < e) = false := decide_eq_false (by omega)
    obtain rfl : X = [] := List.eq_nil_of_length_eq_zero (by omega)
    go_wp2
    go_end0
    exact hK.out Y _ (by rw [List.nil_append]) hY (by simpa only [List.nil_append] using hr) (Ch.refl _ _)

set_option maxRecDepth 100000 in
set_option maxHeartbeats 12800000 in
theorem symTail2_w (n : Nat) (IH : Hid (∀ (w : World) (blk : Nat) (sp : List Value) (cp : Nat) (A X Y B : List Tg) (a m b Ln : Nat), X.length + Y.length ≤ n → A.length = a → a + X.length = m → m + Y.length = b → b + B.length = Ln → Ln ≤ 1000000 →
    0 < X.length → 0 < Y.length → Srt X → Srt Y → Apart X Y → PRow w blk sp (pl (A ++ (X ++ (Y ++ B)))) →
    Calls Try.prog 132 #[.slice (some ⟨blk, 0, none⟩) Ln cp, vInt a, vInt m, vInt b, vCmp] w fun r w' => r = .returned vUnit ∧ ∃ Z : List Tg, Z.Perm (X ++ Y) ∧ Srt Z ∧ PRow w' blk sp (pl (A ++ (Z ++ B))) ∧ Ch [blk] w w'))
    (w : World) (blk : Nat) (sp : List Value) (cp : Nat) (A X1 Y1 X2 Y2 B : List Tg) (a m b Ln md i e : Nat) (K : Ending → World → Prop) (hn1 : X1.length + Y1.length ≤ n) (hn2 : X2.length + Y2.length ≤ n) (hA : A.length = a) (hX1 : a + X1.length = i) (hY1 : i + Y1.length = md) (hX2 : md + X2.length = e) (hY2 : e + Y2.length = b) (hL : b + B.length = Ln) (hbig : Ln ≤ 1000000)
    (sX1 : Srt X1) (sY1 : Srt Y1) (ap1 : Apart X1 Y1) (sX2 : Srt X2) (sY2 : Srt Y2) (ap2 : Apart X2 Y2) (hr : PRow w blk sp (pl (A ++ (X1 ++ (Y1 ++ (X2 ++ (Y2 ++ B)))))))
    (hK : Hid (∀ (Z1 Z2 : List Tg) (wz : World), Z1.Perm (X1 ++ Y1) → Srt Z1 → Z2.Perm (X2 ++ Y2) → Srt Z2 → PRow wz blk sp (pl (A ++ (Z1 ++ (Z2 ++ B)))) → Ch [blk] w wz → K (.returned vUnit) wz)) (u5 u6 u7 u8 u9 u10 u11 u12 u13 u14 u15 u16 u17 u19 u21 u22 u23 u25 u26 u27 u28 u29 u30 u31 u32 u33 u34 u35 u36 u37 u38 u39 u40 u41 u42 u43 u44 u45 u46 u47 u48 u49 u50 u51 u52 u53 u54 u55 u56 u57 u58 u59 u60 u61 u62 u63 u64 u65 u66 u67 u68 u69 u70 u71 u72 u73 u74 u75 u76 u77 u78 u79 u80 u81 u82 u83 u84 u85 u86 u87 u88 u89 u90 u91 u92 u93 u94 u95 u96 u97 u98 u99 u100 u101 u102 u103 u104 u105 u106 u107 u108 u109 u110 u111 u112 u113 u114 u115 u116 u117 u118 u119 u120 u121 u122 u123 u124 u125 u126 u127 u128 u129 u130 u131 u132 u133 u134 u135 u136 u137 u138 u139 u140 u141 u142 u143 u144 u145 u146 u147 u148 u149 u150 u151 u152 u153 u154 u155 u156 u157 u158 u159 u160 u161 u162 u163 u164 u165 u166 u167 u168 u169 u170 u171 u172 u173 u174 u175 u176 u177 u178 u179 u180 u181 u182 u183 u184 u185 u186 u187 u188 u189 u190 u191 u192 u193 u194 u195 u196 u197 u198 u199 u200 u201 u202 u203 u204 u205 u206 u207 u208 u209 u210 u211 u212 u213 u214 u215 u216 u217 u218 u219 : Value) :
    Code.wp Try.prog (codeTail (Try.f132.body.getD .skip) 10) (bodyPost Try.prog Try.f132 K) { tmps := #[.slice (some ⟨blk, 0, none⟩) Ln cp, vInt a, vInt m, vInt b, vCmp, u5, u6, u7, u8, u9, u10, u11, u12, u13, u14, u15, u16, u17, vInt md, u19, vInt i, u21, u22, u23, vInt e, u25, u26, u27, u28, u29, u30, u31, u32, u33, u34, u35, u36, u37, u38, u39, u40, u41, u42, u43, u44, u45, u46, u47, u48, u49, u50, u51, u52, u53, u54, u55, u56, u57, u58, u59, u60, u61, u62, u63, u64, u65, u66, u67, u68, u69, u70, u71, u72, u73, u74, u75, u76, u77, u78, u79, u80, u81, u82, u83, u84, u85, u86, u87, u88, u89, u90, u91, u92, u93, u94, u95, u96, u97, u98, u99, u100, u101, u102, u103, u104, u105, u106, u107, u108, u109, u110, u111, u112, u113, u114, u115, u116, u117, u118, u119, u120, u121, u122, u123, u124, u125, u126, u127, u128, u129, u130, u131, u132, u133, u134, u135, u136, u137, u138, u139, u140, u141, u142, u143, u144, u145, u146, u147, u148, u149, u150, u151, u152, u153, u154, u155, u156, u157, u158, u159, u160, u161, u162, u163, u164, u165, u166, u167, u168, u169, u170, u171, u172, u173, u174, u175, u176, u177, u178, u179, u180, u181, u182, u183, u184, u185, u186, u187, u188, u189, u190, u191, u192, u193, u194, u195, u196, u197, u198, u199, u200, u201, u202, u203, u204, u205, u206, u207, u208, u209, u210, u211, u212, u213, u214, u215, u216, u217, u218, u219], defers := [] } w := by
  conv in codeTail _ _ => (unfold Try.f132; dsimp only [Option.getD, codeTail])
  dsimp only
  go_step
  go_cut [] (fun wc => ∃ Z1 : List Tg, Z1.Perm (X1 ++ Y1) ∧ Srt Z1 ∧ PRow wc blk sp (pl (A ++ (Z1 ++ (X2 ++ (Y2 ++ B))))) ∧ Ch [blk] w wc)
  case first =>
    by_cases g : a < i
    · have g1 : (a : Int) < i := by omega
      by_cases g' : i < md
      · have g2 : (i : Int) < md := by omega
        go_wp2_with (go_at_call 132; refine (IH.out _ blk sp cp A X1 Y1 (X2 ++ (Y2 ++ B)) a i md Ln hn1 hA hX1 hY1 (by simp only [List.length_append]; omega) hbig (by omega) (by omega) sX1 sY1 ap1 hr).mono ?_; rintro e w' ⟨rfl, Z1, z1, z2, z3, z4⟩)
        go_meet
        exact ⟨Z1, z1, z2, z3, z4⟩
      · have g2 : decide ((i : Int) < md) = false := decide_eq_false (by omega)
        obtain rfl : Y1 = [] := List.eq_nil_of_length_eq_zero (by omega)
        go_wp2
        go_meet
        exact ⟨X1, by rw [List.append_nil], sX1, by simpa only [List.nil_append] using hr, Ch.refl _ _⟩
    · have g1 : decide ((a : Int) < i) = false := decide_eq_false (by omega)
      obtain rfl : X1 = [] := List.eq_nil_of_length_eq_zero (by omega)
      go_wp2
      go_meet
      exact ⟨Y1, by rw [List.nil_append], sY1, by simpa only [List.nil_append] using hr, Ch.refl _ _⟩
  case rest =>
    obtain ⟨Z1, z1, z2, hr2, hch2⟩ := hcut
    have hz1 : (A ++ Z1).length = md := by rw [List.length_append, z1.length_eq, List.length_append]; omega
    rw [← List.append_assoc] at hr2
    apply_assumption
    exact symTail3_w n IH wc blk sp cp (A ++ Z1) X2 Y2 B a m b Ln md e K hn2 hz1 hX2 hY2 hL hbig sX2 sY2 ap2 hr2 (hide fun Z2 wz y1 y2 y3 y4 => hK.out Z1 Z2 wz z1 z2 y1 y2 (by simpa only [List.append_assoc] using y3) (hch2.trans' y4)) _ _ _ _ _ _ _ _ _ _ _ _ _ _ _ _ _ _ _ _ _ _ _ _ _ _ _ _ _ _ _ _ _ _ _ _ _ _ _ _ _ _ _ _ _ _ _ _ _ _ _ _ _ _ _ _ _ _ _ _ _ _ _ _ _ _ _ _ _ _ _ _ _ _ _ _ _ _ _ _ _ _ _ _ _ _ _ _ _ _ _ _ _ _ _ _ _ _ _ _ _ _ _ _ _ _ _ _ _ _ _ _ _ _ _ _ _ _ _ _ _ _ _ _ _ _ _ _ _ _ _ _ _ _ _ _ _ _ _ _ _ _ _ _ _ _ _ _ _ _ _ _ _ _ _ _ _ _ _ _ _ _ _ _ _ _ _ _ _ _ _ _ _ _ _ _ _ _ _ _ _ _ _ _ _ _ _ _ _ _ _ _ _ _ _ _ _ _ _ _ _ _ _ _ _ _ _ _ _ _ _ _ _

set_option maxRecDepth 100000 in
set_option maxHeartbeats 12800000 in
theorem symTail_w (n : Nat) (IH : Hid (∀ (w : World) (blk : Nat) (sp : List Value) (cp : Nat) (A X Y B : List Tg) (a m b Ln : Nat), X.length + Y.length ≤ n → A.length = a → a + X.length = m → m + Y.length = b → b + B.length = Ln → Ln ≤ 1000000 →
    0 < X.length → 0 < Y.length → Srt X → Srt Y → Apart X Y → PRow w blk sp (pl (A ++ (X ++ (Y ++ B)))) →
    Calls Try.prog 132 #[.slice (some ⟨blk, 0, none⟩) Ln cp, vInt a, vInt m, vInt b, vCmp] w fun r w' => r = .returned vUnit ∧ ∃ Z : List Tg, Z.Perm (X ++ Y) ∧ Srt Z ∧ PRow w' blk sp (pl (A ++ (Z ++ B))) ∧ Ch [blk] w w'))
    (w wr : World) (blk : Nat) (sp : List Value) (cp : Nat) (A X Y B : List Tg) (a m b Ln md nn i lo hi p : Nat) (K : Ending → World → Prop)
    (hn : X.length + Y.length ≤ n + 1) (hA : A.length = a) (hm : a + X.length = m) (hb : m + Y.length = b) (hL : b + B.length = Ln) (hbig : Ln ≤ 1000000) (hX2' : 1 < X.length) (hY2' : 1 < Y.length)
    (hX : Srt X) (hY : Srt Y) (hap : Apart X Y) (hmd : (a + b) / 2 = md) (hnn : md + m = nn) (hp : p + 1 = nn) (c2 : a ≤ lo) (c3 : hi ≤ m) (c4 : nn ≤ b + lo) (c5 : m + hi ≤ nn) (c6 : lo = a ∨ nn = b + lo) (c7 : hi = m ∨ m + hi = nn)
    (hli : lo ≤ i) (hjh : i ≤ hi) (hlo : Hid (i = lo ∨ ∃ c, i = c + 1 ∧ lo ≤ c ∧ NLess X Y (c - a) (p - c - m))) (hhi : Hid (i = hi ∨ (i < hi ∧ Less X Y (i - a) (p - i - m))))
    (hr : PRow wr blk sp (pl (A ++ (X ++ (Y ++ B))))) (hch : Ch [] w wr)
    (hK : Hid (∀ (Z : List Tg) (wz : World), Z.Perm (X ++ Y) → Srt Z → PRow wz blk sp (pl (A ++ (Z ++ B))) → Ch [blk] w wz → K (.returned vUnit) wz))
    (u5 u6 u7 u8 u9 u10 u11 u12 u13 u14 u15 u16 u17 u21 u22 u23 u24 u25 u26 u27 u28 u29 u30 u31 u32 u33 u34 u35 u36 u37 u38 u39 u40 u41 u42 u43 u44 u45 u46 u47 u48 u49 u50 u51 u52 u53 u54 u55 u56 u57 u58 u59 u60 u61 u62 u63 u64 u65 u66 u67 u68 u69 u70 u71 u72 u73 u74 u75 u76 u77 u78 u79 u80 u81 u82 u83 u84 u85 u86 u87 u88 u89 u90 u91 u92 u93 u94 u95 u96 u97 u98 u99 u100 u101 u102 u103 u104 u105 u106 u107 u108 u109 u110 u111 u112 u113 u114 u115 u116 u117 u118 u119 u120 u121 u122 u123 u124 u125 u126 u127 u128 u129 u130 u131 u132 u133 u134 u135 u136 u137 u138 u139 u140 u141 u142 u143 u144 u145 u146 u147 u148 u149 u150 u151 u152 u153 u154 u155 u156 u157 u158 u159 u160 u161 u162 u163 u164 u165 u166 u167 u168 u169 u170 u171 u172 u173 u174 u175 u176 u177 u178 u179 u180 u181 u182 u183 u184 u185 u186 u187 u188 u189 u190 u191 u192 u193 u194 u195 u196 u197 u198 u199 u200 u201 u202 u203 u204 u205 u206 u207 u208 u209 u210 u211 u212 u213 u214 u215 u216 u217 u218 u219 : Value) :
    Code.wp Try.prog (codeTail (Try.f132.body.getD .skip) 8) (bodyPost Try.prog Try.f132 K) { tmps := #[.slice (some ⟨blk, 0, none⟩) Ln cp, vInt a, vInt m, vInt b, vCmp, u5, u6, u7, u8, u9, u10, u11, u12, u13, u14, u15, u16, u17, vInt md, vInt nn, vInt i, u21, u22, u23, u24, u25, u26, u27, u28, u29, u30, u31, u32, u33, u34, u35, u36, u37, u38, u39, u40, u41, u42, u43, u44, u45, u46, u47, u48, u49, u50, u51, u52, u53, u54, u55, u56, u57, u58, u59, u60, u61, u62, u63, u64, u65, u66, u67, u68, u69, u70, u71, u72, u73, u74, u75, u76, u77, u78, u79, u80, u81, u82, u83, u84, u85, u86, u87, u88, u89, u90, u91, u92, u93, u94, u95, u96, u97, u98, u99, u100, u101, u102, u103, u104, u105, u106, u107, u108, u109, u110, u111, u112, u113, u114, u115, u116, u117, u118, u119, u120, u121, u122, u123, u124, u125, u126, u127, u128, u129, u130, u131, u132, u133, u134, u135, u136, u137, u138, u139, u140, u141, u142, u143, u144, u145, u146, u147, u148, u149, u150, u151, u152, u153, u154, u155, u156, u157, u158, u159, u160, u161, u162, u163, u164, u165, u166, u167, u168, u169, u170, u171, u172, u173, u174, u175, u176, u177, u178, u179, u180, u181, u182, u183, u184, u185, u186, u187, u188, u189, u190, u191, u192, u193, u194, u195, u196, u197, u198, u199, u200, u201, u202, u203, u204, u205, u206, u207, u208, u209, u210, u211, u212, u213, u214, u215, u216, u217, u218, u219], defers := [] } wr := by
  have hlen : (pl (A ++ (X ++ (Y ++ B)))).length = Ln := by rw [pl_len]; simp only [List.length_append]; omega
  have hX0 : 0 < X.length := by omega
  have hY0 : 0 < Y.length := by omega
  have hX1 := hX2'
  have hY1 := hY2'
  have hdx := hX2'
  have hdy := hY2'
  obtain ⟨e, he⟩ : ∃ e, e + i = nn := ⟨nn - i, by omega⟩
  have q2 : IntKind.i64.wrap ((nn : Int) - i) = (e : Int) := by rw [IntWalk.i64_in _ (by omega)]; omega
  conv in codeTail _ _ => (unfold Try.f132; dsimp only [Option.getD, codeTail])
  dsimp only
  -- the parts
  obtain ⟨X1, X2, rfl, hx1⟩ : ∃ X1 X2, X = X1 ++ X2 ∧ X1.length = i - a := ⟨X.take (i - a), X.drop (i - a), (List.take_append_drop _ _).symm, by rw [List.length_take]; omega⟩
  obtain ⟨Y1, Y2, rfl, hy1⟩ : ∃ Y1 Y2, Y = Y1 ++ Y2 ∧ Y1.length = e - m := ⟨Y.take (e - m), Y.drop (e - m), (List.take_append_drop _ _).symm, by rw [List.length_take]; omega⟩
  rw [List.length_append] at hn hm hX0 hX1 hdx
  rw [List.length_append] at hn hb hY0 hY1 hdy
  have hyx : ∀ y ∈ Y1, ∀ x ∈ X2, L y x := by
    rcases hhi.out with hh | ⟨hjlt, hh⟩
    · rcases c7 with c7 | c7
      · have : X2 = [] := List.eq_nil_of_length_eq_zero (by omega)
        subst this
        intro y _ x hx
        cases hx
      · have : Y1 = [] := List.eq_nil_of_length_eq_zero (by omega)
        subst this
        intro y hy
        cases hy
    · have := cross_yx hX hY hh
      rw [show p - i - m + 1 = Y1.length by omega, ← hx1, List.take_left, List.drop_left] at this
      exact this
  have hxy : ∀ x ∈ X1, ∀ y ∈ Y2, L x y := by
    rcases hlo.out with hh | ⟨c, hci, hlc, hh⟩
    · rcases c6 with c6 | c6
      · have : X1 = [] := List.eq_nil_of_length_eq_zero (by omega)
        subst this
        intro x hx
        cases hx
      · have : Y2 = [] := List.eq_nil_of_length_eq_zero (by omega)
        subst this
        intro x _ y hy
        cases hy
    · have := cross_xy hX hY hap hh
      obtain ⟨hj1, hj2, _⟩ := hh
      rw [show c - a + 1 = X1.length by omega, show p - c - m = Y1.length by omega, List.take_left, List.drop_left] at this
      exact this
  have sX := hX
  have sY := hY
  rw [Srt, List.pairwise_append] at sX sY
  have hapx : ∀ (P Q : List Tg), (∀ x ∈ P, x ∈ X1 ++ X2) → (∀ y ∈ Q, y ∈ Y1 ++ Y2) → Apart P Q := fun P Q hp hq x hx y hy => hap x (hp x hx) y (hq y hy)
  have hlx2 : i + X2.length = m := by omega
  have hly2 : e + Y2.length = b := by omega
  have HX := hide hX
  have HY := hide hY
  have HS := hide (And.intro sX sY)
  have HYX := hide hyx
  have HXY := hide hxy
  have HAP := hide hapx
  clear hX hY sX sY hyx hxy hapx hap hlo hhi
  have hr0 : PRow wr blk sp (pl (A ++ (X1 ++ (X2 ++ (Y1 ++ (Y2 ++ B)))))) := by simpa only [List.append_assoc] using hr
  go_upto_region 38 with fail
  go_cut [24] (fun t wc => t = vInt e ∧ wr = wc)
  case first =>
    go_wp2
    go_meet
    exact ⟨rfl, rfl⟩
  case rest =>
  obtain ⟨rfl, rfl⟩ := hcut
  apply_assumption
  go_step
  go_cut [] (fun wc => PRow wc blk sp (pl (A ++ (X1 ++ (Y1 ++ (X2 ++ (Y2 ++ B)))))) ∧ Ch [blk] w wc)
  case first =>
    by_cases g : i < m
    · have g1 : (i : Int) < m := by omega
      by_cases g' : m < e
      · have g2 : (m : Int) < e := by omega
        go_wp2_with (go_at_call 168; refine (rotate_w _ blk sp cp _ (pl (A ++ X1)) (pl X2) (pl Y1) (pl (Y2 ++ B)) _ i m e Ln (by rw [← hlen]; simp only [pl_len, List.length_append, pl_append]; omega) (by simp only [pl_append, List.append_assoc]) (by rw [pl_len, List.length_append]; omega) (by rw [pl_len]; omega) (by rw [pl_len]; omega) (by rw [pl_len]; omega) (by rw [pl_len]; omega) hbig hr0).mono ?_; rintro e w' ⟨rfl, hp2, hch2⟩)
        go_meet
        exact ⟨by simpa only [pl_append, List.append_assoc] using hp2, (hch.mono (by simp)).trans' hch2⟩
      · have g2 : decide ((m : Int) < e) = false := decide_eq_false (by omega)
        have : Y1 = [] := List.eq_nil_of_length_eq_zero (by omega)
        go_wp2
        go_meet
        refine ⟨?_, hch.mono (by simp)⟩
        rw [this] at hr0 ⊢
        simpa only [List.nil_append] using hr0
    · have g1 : decide ((i : Int) < m) = false := decide_eq_false (by omega)
      have : X2 = [] := List.eq_nil_of_length_eq_zero (by omega)
      go_wp2
      go_meet
      refine ⟨?_, hch.mono (by simp)⟩
      rw [this] at hr0 ⊢
      simpa only [List.nil_append] using hr0
  case rest =>
    obtain ⟨hr1, hch1⟩ := hcut
    apply_assumption
    exact symTail2_w n IH wc blk sp cp A X1 Y1 X2 Y2 B a m b Ln md i e K (by omega) (by omega) hA (by omega) (by omega) (by omega) (by omega) hL hbig HS.out.1.1 HS.out.2.1 (HAP.out _ _ (fun x hx => by simp [hx]) (fun y hy => by simp [hy])) HS.out.1.2.1 HS.out.2.2.1 (HAP.out _ _ (fun x hx => by simp [hx]) (fun y hy => by simp [hy])) hr1
      (hide fun Z1 Z2 wz z1 z2 y1 y2 y3 y4 => hK.out (Z1 ++ Z2) wz (perm_join z1 y1) (Srt.join z1 y1 z2 y2 HX.out HY.out HXY.out HYX.out) (by simpa only [List.append_assoc] using y3) (hch1.trans' y4)) _ _ _ _ _ _ _ _ _ _ _ _ _ _ _ _ _ _ _ _ _ _ _ _ _ _ _ _ _ _ _ _ _ _ _ _ _ _ _ _ _ _ _ _ _ _ _ _ _ _ _ _ _ _ _ _ _ _ _ _ _ _ _ _ _ _ _ _ _ _ _ _ _ _ _ _ _ _ _ _ _ _ _ _ _ _ _ _ _ _ _ _ _ _ _ _ _ _ _ _ _ _ _ _ _ _ _ _ _ _ _ _ _ _ _ _ _ _ _ _ _ _ _ _ _ _ _ _ _ _ _ _ _ _ _ _ _ _ _ _ _ _ _ _ _ _ _ _ _ _ _ _ _ _ _ _ _ _ _ _ _ _ _ _ _ _ _ _ _ _ _ _ _ _ _ _ _ _ _ _ _ _ _ _ _ _ _ _ _ _ _ _ _ _ _ _ _ _ _ _ _ _ _ _ _ _ _ _ _ _ _ _
end Go.Proofs.Ytmojbpgabpbacaa
