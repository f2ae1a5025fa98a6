/- Lemmas of the claim, part 2. No condition. -/
import Derived.Test.YtlfhngoeecjfpaaGreatDoorZe1
set_option linter.unusedVariables false
set_option linter.unusedSimpArgs false
set_option maxRecDepth 100000
set_option maxHeartbeats 4000000
namespace Go.Proofs.YtlfhngoeecjfpaaGreatDoor.W
open Go Go.Proofs.YtlfhngoeecjfpaaGreatDoor.Sh
def F83 (a0_0:Int) (a0_1:ByteArray) (a0_2:Int) (a0_3:Int) (a0_4:Int) (a0_5:Int) (a0_6:Bool) (a1p:OA) (a1l:Nat) (a1c:Nat) (w:World) (R:KV):Prop :=
 zaf w (.cells #[(i6 a0_0),(.string a0_1),(i6 a0_2),(i6 a0_3),(i6 a0_4),(i6 a0_5),(.bool a0_6)] 101) fun w1=>gI .i64 w1 ⟨w.heap.size,2,none⟩ fun n1=>ifB ((n1:Int) != (-1)) (gI .i64 w1 ⟨w.heap.size,2,none⟩ fun n2=>R (.tuple #[(i6 n2),(.bool true)]) w1) (ifB (((a1l:Nat):Int) == 0) (R (.tuple #[(i6 0),(.bool false)]) w1) (semK PP (Instr.indexAt 22 (.slice a1p a1l a1c) (i6 0)) w1 fun v3 w2=>asA v3 fun ad1=>gI .u8 w2 ad1 fun n3=>R (.tuple #[(i6 (IntKind.wrap .i64 (1+(IntKind.wrap .i64 (2 * (IntKind.wrap .i64 ((IntKind.wrap .i64 n3)+1))))))),(.bool true)]) w2))
def A83 (R:KV):Ann:=.no
theorem sides83 (R:KV):zak PP Tryz.f83 (A83 R) R:=by
 trivial
theorem call83 (a0_0:Int) (a0_1:ByteArray) (a0_2:Int) (a0_3:Int) (a0_4:Int) (a0_5:Int) (a0_6:Bool) (a1p:OA) (a1l:Nat) (a1c:Nat) (w:World) (R:KV) (h:F83 a0_0 a0_1 a0_2 a0_3 a0_4 a0_5 a0_6 a1p a1l a1c w R):zaj PP 83 #[(.agg #[(i6 a0_0),(.string a0_1),(i6 a0_2),(i6 a0_3),(i6 a0_4),(i6 a0_5),(.bool a0_6)]),(.slice a1p a1l a1c)] w R :=
 zah (an:=A83 R) Tryz.func83 rfl (sides83 R) (Eq.mp (by kernel_rfl) h)

def F84 (w:World) (R:KV):Prop :=
 zaf w (.cells #[(i6 0),.nilFunc,.nilFunc,(i6 0),.nilFunc,.nilFunc,(i6 0),.nilFunc,.nilFunc] 184) fun w1=>sU 184 ⟨w.heap.size,0,none⟩ (.agg #[(i6 1),(.func (.func 129) #[] #[]),(.func (.func 130) #[] #[]),(i6 1),(.func (.func 131) #[] #[]),(.func (.func 132) #[] #[]),(i6 2),(.func (.func 133) #[] #[]),(.func (.func 134) #[] #[])]) w1 fun w2=>gI .i64 w2 ⟨w.heap.size,0,none⟩ fun n1=>ldK PP w2 ⟨w.heap.size,1,none⟩ fun v2=>ldK PP w2 ⟨w.heap.size,2,none⟩ fun v3=>gI .i64 w2 ⟨w.heap.size,3,none⟩ fun n2=>ldK PP w2 ⟨w.heap.size,4,none⟩ fun v5=>ldK PP w2 ⟨w.heap.size,5,none⟩ fun v6=>gI .i64 w2 ⟨w.heap.size,6,none⟩ fun n3=>ldK PP w2 ⟨w.heap.size,7,none⟩ fun v8=>ldK PP w2 ⟨w.heap.size,8,none⟩ fun v9=>R (.agg #[(i6 n1),v2,v3,(i6 n2),v5,v6,(i6 n3),v8,v9]) w2
def A84 (R:KV):Ann:=.no
theorem sides84 (R:KV):zak PP Tryz.f84 (A84 R) R:=by
 trivial
theorem call84 (w:World) (R:KV) (h:F84 w R):zaj PP 84 #[] w R :=
 zah (an:=A84 R) Tryz.func84 rfl (sides84 R) (Eq.mp (by kernel_rfl) h)

def L86_0 (R:KV):Nat→OA→Nat→Nat→Int→Addr→Int→World→Prop
 | 0=>fun _ _ _ _ _ _ _=>False
 | k+1=>fun x0p x0l x0c x1 x5 x7 w=>ifB (decide ((x7:Int) < x1)) (ma33 w x5 fun n1 n2=>zaf w (.cells #[(i6 n1),(i6 n2)] 189) fun w1=>semK PP (Builtin.append_ #[190,190] 190 #[(.slice x0p x0l x0c),(.slice (some ⟨w.heap.size,0,none⟩) 1 1)]) w1 fun v3 w2=>asL v3 fun l1p l1l l1c=>L86_0 R k l1p l1l l1c x1 x5 (IntKind.wrap .i64 (x7+1)) w2) (R (.slice x0p x0l x0c) w)
def L93_0 (R:KV):Nat→Int→OA→Nat→Nat→Int→Int→World→Prop
 | 0=>fun _ _ _ _ _ _ _=>False
 | k+1=>fun x1 x7p x7l x7c x8 x9 w=>ifB (decide ((x9:Int) < x8)) (semK PP (Instr.indexAt 25 (.slice x7p x7l x7c) (i6 x9)) w fun v1 w1=>asA v1 fun ad1=>gL w1 ad1 fun l1p l1l l1c=>ifB (((l1l:Nat):Int) == 0) (R (i6 56) w1) (ifB (decide (((l1l:Nat):Int) > x1)) (R (i6 2) w1) (L93_0 R k x1 x7p x7l x7c x8 (IntKind.wrap .i64 (x9+1)) w1))) (R (i6 0) w)
def F93 (a0p:OA) (a0l:Nat) (a0c:Nat) (a1:Int) (w:World) (R:KV):Prop :=
 ∃ m,L93_0 R m a1 a0p a0l a0c (a0l:Nat) 0 w
def A93 (R:KV):Ann:=(sN (.seq (sN (.block (.loop (fun m e ds w=>nilD ds (aI e 1 fun x1=>asL (e 7) fun x7p x7l x7c=>aI e 8 fun x8=>aI e 9 fun x9=>L93_0 R m x1 x7p x7l x7c x8 x9 w)) (fun kL93_0=>.no)))) .no))
theorem sides93 (R:KV):zak PP Tryz.f93 (A93 R) R:=by
 exact (zt (ai (zt (ai (zsi fun e w h=>eI h fun z1 h=>eL h fun z7 h=>eI h fun z8 h=>eI h fun z9 h=>h) (ai (fun kL93_0=>zsi fun e w h=>eI h fun z1 h=>eL h fun z7 h=>eI h fun z8 h=>eI h fun z9 h=>by rw [← zag (aC z1 (aC z7 (aC z8 (aC z9 aN))))];exact zq h) (fun kL93_0=>trivial)))) trivial))
theorem call93 (a0p:OA) (a0l:Nat) (a0c:Nat) (a1:Int) (w:World) (R:KV) (h:F93 a0p a0l a0c a1 w R):zaj PP 93 #[(.slice a0p a0l a0c),(i6 a1)] w R :=
 zah (an:=A93 R) Tryz.func93 rfl (sides93 R) (Eq.mp (by kernel_rfl) h)

def B94_1 (R:KV) (l:Nat) (r:Loop) (x5:Addr) (x6:Addr) (x7:Addr) (args:List Value) (w:World):Prop :=
 readyA w l r (hG args fun q10 ys0=>hI .i64 q10 fun n1 q11=>hI .i64 q11 fun n2 q12=>hL q12 fun l1p l1l l1c q13=>hI .i64 q13 fun n3 q14=>zav q14 (zav ys0 (zaf w (.cells #[(i6 0),(i6 0),(.slice none 0 0),(i6 0)] 70) fun w1=>sU 70 ⟨w.heap.size,0,none⟩ (.agg #[(i6 n1),(i6 n2),(.slice l1p l1l l1c),(i6 n3)]) w1 fun w2=>readyA w2 l r (putK w2 l (zbs r .busy none) fun w3=>gL w3 x5 fun l2p l2l l2c=>mb13 w3 w.heap.size fun n4 n5 l3p l3l l3c n6=>zaf w3 (.cells #[(i6 n4),(i6 n5),(.slice l3p l3l l3c),(i6 n6)] 70) fun w4=>semK PP (Builtin.append_ #[148,148] 148 #[(.slice l2p l2l l2c),(.slice (some ⟨w3.heap.size,0,none⟩) 1 1)]) w4 fun v6 w5=>asL v6 fun l4p l4l l4c=>sU 148 x5 (.slice l4p l4l l4c) w5 fun w6=>zbf w6 fun w7=>gI .i64 w7 ⟨w.heap.size,3,none⟩ fun n7=>gI .i64 w7 ⟨w.heap.size,0,none⟩ fun n8=>sU 3 x6 (i6 n7) w7 fun w8=>(gI .i64 w8 ⟨w.heap.size,0,none⟩ fun n9=>((i6 n9):Value)=(i6 n8))∧(sU 3 x7 (i6 n8) w8 fun w9=>stopA l r none R w9)))))
def J94_0 (R:KV) (x0p:OA) (x0l:Nat) (x0c:Nat) (x5:Addr) (x6:Addr) (x7:Addr) (ds:List Deferred) (w:World):Prop :=
 gI .i64 w x6 fun n1=>ifB (decide ((n1:Int) < (x0l:Nat))) (gI .i64 w x6 fun n2=>CV 39 #[(.slice x0p x0l x0c),(i6 n2)] w fun v3 w1=>dT22 v3 fun n3 n4 l1p l1l l1c n5 n6=>zaf w1 (.cells #[(i6 0),(i6 0),(.slice none 0 0),(i6 0)] 70) fun w2=>sU 70 ⟨w1.heap.size,0,none⟩ (.agg #[(i6 n3),(i6 n4),(.slice l1p l1l l1c),(i6 n5)]) w2 fun w3=>zbf w3 fun w4=>gI .i64 w4 x6 fun n7=>zcx ds w4 fun w5=>R (.tuple #[(.slice none 0 0),(i6 n6),(i6 n7)]) w5) (gL w x5 fun l2p l2l l2c=>ifB (((l2l:Nat):Int) == 0) (zcx ds w fun w6=>R (.tuple #[(.slice none 0 0),(i6 62),(i6 0)]) w6) (gL w x5 fun l3p l3l l3c=>gL w x5 fun l4p l4l l4c=>semK PP (Instr.indexAt 148 (.slice l3p l3l l3c) (i6 (IntKind.wrap .i64 ((l4l:Nat) - 1)))) w fun v8 w7=>asA v8 fun ad1=>gI .i64 w7 (Addr.add ad1 1) fun n8=>CV 36 #[(i6 n8)] w7 fun v10 w8=>dT19 v10 fun n9 s1 n10 n11 n12 n13 b1 b2=>zaf w8 (.cells #[(i6 0),(.string ⟨#[]⟩),(i6 0),(i6 0),(i6 0),(i6 0),(.bool false)] 101) fun w9=>sU 101 ⟨w8.heap.size,0,none⟩ (.agg #[(i6 n9),(.string s1),(i6 n10),(i6 n11),(i6 n12),(i6 n13),(.bool b1)]) w9 fun w10=>gB w10 ⟨w8.heap.size,6,none⟩ fun b3=>ifB (!b3) (zbf w10 fun w11=>gI .i64 w11 x7 fun n14=>zcx ds w11 fun w12=>R (.tuple #[(.slice none 0 0),(i6 62),(i6 n14)]) w12) (gL w10 x5 fun l5p l5l l5c=>zcx ds w10 fun w13=>R (.tuple #[(.slice l5p l5l l5c),(i6 0),(i6 0)]) w13)))
def F94 (a0p:OA) (a0l:Nat) (a0c:Nat) (w:World) (R:KV):Prop :=
 zaf w (.cells #[(.slice none 0 0)] 148) fun w1=>zaf w1 (.cells #[(i6 0)] 3) fun w2=>zaf w2 (.cells #[(i6 0)] 3) fun w3=>sU 3 ⟨w1.heap.size,0,none⟩ (i6 0) w3 fun w4=>sU 3 ⟨w2.heap.size,0,none⟩ (i6 0) w4 fun w5=>CV 75 #[(.slice a0p a0l a0c)] w5 fun v1 w6=>entO w6 fun lz1 rz1 mkz1 waz1=>yieldA PP lz1 (fun args wy F=>B94_1 F lz1 rz1 ⟨w.heap.size,0,none⟩ ⟨w1.heap.size,0,none⟩ ⟨w2.heap.size,0,none⟩ args wy) (enterV PP v1 #[.func (.yield lz1) #[] #[]] waz1 fun _ wbz1=>endA lz1 rz1 wbz1 fun pe wcz1=>jumpP pe wcz1 (fun wdz1=>J94_0 R a0p a0l a0c ⟨w.heap.size,0,none⟩ ⟨w1.heap.size,0,none⟩ ⟨w2.heap.size,0,none⟩ (mkz1++[]) wdz1) (fun wdz1=>zcx (mkz1++[]) wdz1 fun w7=>R (.tuple #[(.slice none 0 0),(i6 0),(i6 0)]) w7) (fun jd wdz1=>cond (Nat.beq jd 0) (J94_0 R a0p a0l a0c ⟨w.heap.size,0,none⟩ ⟨w1.heap.size,0,none⟩ ⟨w2.heap.size,0,none⟩ (mkz1++[]) wdz1) (False)) (fun jt wdz1=>False))
def A94 (R:KV):Ann:=(sN (sN (sN (.join (fun e ds w=>asL (e 0) fun x0p x0l x0c=>asA (e 5) fun x5=>asA (e 6) fun x6=>asA (e 7) fun x7=>J94_0 R x0p x0l x0c x5 x6 x7 ds w) (sN (.block (.rng [.agg [(.i .i64),(.i .i64),.sl,(.i .i64)]] (fun l1 r1 F1=>.no) (fun l1 r1 F1=>(.block (sN (.draw [0,1,2,3,4,5]))))))) (.seq (sN (.cond (sN (.seq (.draw [0,1,2,3,4]) .no)) .no)) (sN (.seq (sN (sN (.cond (.seq (.draw [0,1,2,3]) .no) .no))) .no)))))))
theorem sides94 (R:KV):zak PP Tryz.f94 (A94 R) R:=by
 exact (zt (zt (zt (ai (fun e ds w h=>eL h fun z0 h=>eA h fun z5 h=>eA h fun z6 h=>eA h fun z7 h=>by rw [← zag (aC z0 (aC z5 (aC z6 (aC z7 aN))))];exact zq h) (ai (zt (fun l1 r1 F1=>ai trivial (ai trivial trivial))) (ai (zt (ai (zt (ai trivial trivial)) trivial)) (zt (ai (zt (zt (ai (ai trivial trivial) trivial))) trivial))))))))
theorem call94 (a0p:OA) (a0l:Nat) (a0c:Nat) (w:World) (R:KV) (h:F94 a0p a0l a0c w R):zaj PP 94 #[(.slice a0p a0l a0c)] w R :=
 zah (an:=A94 R) Tryz.func94 rfl (sides94 R) (Eq.mp (by kernel_rfl) h)

def B95_0 (R:KV) (l:Nat) (r:Loop) (x3:Addr) (args:List Value) (w:World):Prop :=
 readyA w l r (hG args fun q10 ys0=>hI .i64 q10 fun n1 q11=>hI .i64 q11 fun n2 q12=>hL q12 fun l1p l1l l1c q13=>hI .i64 q13 fun n3 q14=>zav q14 (zav ys0 (zaf w (.cells #[(i6 0),(i6 0),(.slice none 0 0),(i6 0)] 70) fun w1=>sU 70 ⟨w.heap.size,0,none⟩ (.agg #[(i6 n1),(i6 n2),(.slice l1p l1l l1c),(i6 n3)]) w1 fun w2=>readyA w2 l r (putK w2 l (zbs r .busy none) fun w3=>gL w3 x3 fun l2p l2l l2c=>gI .i64 w3 ⟨w.heap.size,0,none⟩ fun n4=>semK PP (Instr.indexAt 47 (.slice l2p l2l l2c) (i6 n4)) w3 fun v3 w4=>asA v3 fun ad1=>sU 4 ad1 (.bool true) w4 fun w5=>stopA l r none R w5))))
def F95 (a0p:OA) (a0l:Nat) (a0c:Nat) (w:World) (R:KV):Prop :=
 semK PP (Instr.makeSlice 47 (i6 (a0l:Nat)) (i6 (a0l:Nat))) w fun v1 w1=>asL v1 fun l1p l1l l1c=>zaf w1 (.cells #[(.slice none 0 0)] 47) fun w2=>sU 47 ⟨w1.heap.size,0,none⟩ (.slice l1p l1l l1c) w2 fun w3=>CV 75 #[(.slice a0p a0l a0c)] w3 fun v2 w4=>entO w4 fun lz1 rz1 mkz1 waz1=>yieldA PP lz1 (fun args wy F=>B95_0 F lz1 rz1 ⟨w1.heap.size,0,none⟩ args wy) (enterV PP v2 #[.func (.yield lz1) #[] #[]] waz1 fun _ wbz1=>endA lz1 rz1 wbz1 fun pe wcz1=>jumpP pe wcz1 (fun wdz1=>gL wdz1 ⟨w1.heap.size,0,none⟩ fun l2p l2l l2c=>zcx (mkz1++[]) wdz1 fun w5=>R (.slice l2p l2l l2c) w5) (fun wdz1=>zcx (mkz1++[]) wdz1 fun w6=>R (.slice none 0 0) w6) (fun jd wdz1=>cond (Nat.beq jd 0) (gL wdz1 ⟨w1.heap.size,0,none⟩ fun l3p l3l l3c=>zcx (mkz1++[]) wdz1 fun w7=>R (.slice l3p l3l l3c) w7) (False)) (fun jt wdz1=>False))
def A95 (R:KV):Ann:=(sN (sN (.seq (sN (.block (.rng [.agg [(.i .i64),(.i .i64),.sl,(.i .i64)]] (fun l0 r0 F0=>.no) (fun l0 r0 F0=>.no)))) .no)))
theorem sides95 (R:KV):zak PP Tryz.f95 (A95 R) R:=by
 exact (zt (zt (ai (zt (fun l0 r0 F0=>ai trivial trivial)) trivial)))
theorem call95 (a0p:OA) (a0l:Nat) (a0c:Nat) (w:World) (R:KV) (h:F95 a0p a0l a0c w R):zaj PP 95 #[(.slice a0p a0l a0c)] w R :=
 zah (an:=A95 R) Tryz.func95 rfl (sides95 R) (Eq.mp (by kernel_rfl) h)

def J96_3 (R:KV) (x0:OA) (x6:Addr) (x12:Int) (x114:Bool) (w:World):Prop :=
 ifB x114 (optP x0 fun ad1=>gL w (Addr.add ad1 2) fun l1p l1l l1c=>ifB (decide ((x12:Int) ≥ (l1l:Nat))) (R (i6 85) w) (gI .i64 w (Addr.add x6 1) fun n1=>ifB ((n1:Int) == 236) (optP x0 fun ad2=>gL w (Addr.add ad2 6) fun l2p l2l l2c=>semK PP (Instr.indexAt 47 (.slice l2p l2l l2c) (i6 x12)) w fun v4 w1=>asA v4 fun ad3=>sU 4 ad3 (.bool true) w1 fun w2=>R (i6 0) w2) (optP x0 fun ad4=>gL w (Addr.add ad4 7) fun l3p l3l l3c=>semK PP (Instr.indexAt 47 (.slice l3p l3l l3c) (i6 x12)) w fun v6 w3=>asA v6 fun ad5=>sU 4 ad5 (.bool true) w3 fun w4=>R (i6 0) w4))) (R (i6 0) w)
def J96_2 (R:KV) (x0:OA) (x1:Int) (x6:Addr) (x11:Addr) (x12:Int) (x58:Int) (x59:Bool) (w:World):Prop :=
 ifB x59 (optP x0 fun ad1=>gL w ad1 fun l1p l1l l1c=>ifB (decide ((x12:Int) ≥ (l1l:Nat))) (R (i6 81) w) (zbf w fun w1=>optP x0 fun ad2=>gL w1 (Addr.add ad2 8) fun l2p l2l l2c=>optP x0 fun ad3=>gL w1 (Addr.add ad3 8) fun l3p l3l l3c=>semK PP (Instr.indexAt 141 (.slice l3p l3l l3c) (i6 x1)) w1 fun v4 w2=>asA v4 fun ad4=>gL w1 ad4 fun l4p l4l l4c=>zaf w1 (.cells #[(i6 x12)] 3) fun w3=>(gL w3 (Addr.add ad2 8) fun l5p l5l l5c=>((.slice l5p l5l l5c):Value)=(.slice l2p l2l l2c))∧((gL w3 (Addr.add ad3 8) fun l6p l6l l6c=>((.slice l6p l6l l6c):Value)=(.slice l3p l3l l3c))∧((gL w3 ad4 fun l7p l7l l7c=>((.slice l7p l7l l7c):Value)=(.slice l4p l4l l4c))∧(semK PP (Builtin.append_ #[29,29] 29 #[(.slice l4p l4l l4c),(.slice (some ⟨w1.heap.size,0,none⟩) 1 1)]) w3 fun v9 w4=>asL v9 fun l8p l8l l8c=>(gL w4 (Addr.add ad2 8) fun l9p l9l l9c=>((.slice l9p l9l l9c):Value)=(.slice l2p l2l l2c))∧(semK PP (Instr.indexAt 141 (.slice l2p l2l l2c) (i6 x1)) w4 fun v11 w5=>asA v11 fun ad5=>sU 29 ad5 (.slice l8p l8l l8c) w4 fun w6=>zbf w6 fun w7=>gI .i64 w7 (Addr.add x6 1) fun n1=>ma7 w7 x11 fun n2 n3 n4=>optP x0 fun ad6=>gL w7 ad6 fun l10p l10l l10c=>semK PP (Instr.indexAt 24 (.slice l10p l10l l10c) (i6 x12)) w7 fun v17 w8=>asA v17 fun ad7=>ma7 w7 ad7 fun n5 n6 n7=>CV 137 #[(.pointer x0),(i6 n1),(.agg #[(i6 n2),(i6 n3),(i6 n4)]),(.agg #[(i6 n5),(i6 n6),(i6 n7)])] w7 fun v21 w9=>asI .i64 v21 fun n8=>R (i6 n8) w9)))))) (ifB ((x58:Int) == 228) (gI .i64 w (Addr.add x11 1) fun n9=>ifB ((n9:Int) == 128) (R (i6 82) w) (R (i6 0) w)) (ifB ((x58:Int) == 209) (optP x0 fun ad8=>gI .i64 w (Addr.add ad8 4) fun n10=>ifB (decide ((IntKind.wrap .i64 (x12+32):Int) > n10)) (R (i6 84) w) (R (i6 0) w)) (ifB ((x58:Int) == 236) (J96_3 R x0 x6 x12 ((x58:Int) == 236) w) (J96_3 R x0 x6 x12 ((x58:Int) == 238) w))))
def J96_0 (R:KV) (x0:OA) (x1:Int) (x6:Addr) (w:World):Prop :=
 optP x0 fun ad1=>gL w ad1 fun l1p l1l l1c=>semK PP (Instr.indexAt 24 (.slice l1p l1l l1c) (i6 x1)) w fun v2 w1=>asA v2 fun ad2=>ma7 w1 ad2 fun n1 n2 n3=>zaf w1 (.cells #[(i6 0),(i6 0),(i6 0)] 52) fun w2=>sU 52 ⟨w1.heap.size,0,none⟩ (.agg #[(i6 n1),(i6 n2),(i6 n3)]) w2 fun w3=>ma12 w3 x6 fun n4 n5 l2p l2l l2c n6=>CV 37 #[(.agg #[(i6 n4),(i6 n5),(.slice l2p l2l l2c),(i6 n6)])] w3 fun v10 w4=>dT9 v10 fun n7 b1=>gI .i64 w4 (Addr.add x6 1) fun n8=>ifB ((n8:Int) == 227) (J96_2 R x0 x1 x6 ⟨w1.heap.size,0,none⟩ n7 n8 ((n8:Int) == 227) w4) (J96_2 R x0 x1 x6 ⟨w1.heap.size,0,none⟩ n7 n8 ((n8:Int) == 229) w4)
def L96_1 (R:KV):Nat→OA→Int→OA→Nat→Nat→Addr→OA→Nat→Nat→Int→Int→World→Prop
 | 0=>fun _ _ _ _ _ _ _ _ _ _ _ _=>False
 | k+1=>fun x0 x1 x3p x3l x3c x6 x22p x22l x22c x23 x24 w=>ifB (decide ((x24:Int) < x23)) (semK PP (Instr.indexAt 29 (.slice x22p x22l x22c) (i6 x24)) w fun v1 w1=>asA v1 fun ad1=>gI .i64 w1 ad1 fun n1=>ifB (decide ((n1:Int) < 0)) (R (i6 63) w1) (ifB (decide ((n1:Int) ≥ (x3l:Nat))) (R (i6 63) w1) (semK PP (Instr.indexAt 47 (.slice x3p x3l x3c) (i6 n1)) w1 fun v3 w2=>asA v3 fun ad2=>gB w2 ad2 fun b1=>ifB (!b1) (R (i6 63) w2) (L96_1 R k x0 x1 x3p x3l x3c x6 x22p x22l x22c x23 (IntKind.wrap .i64 (x24+1)) w2)))) (J96_0 R x0 x1 x6 w)
def F96 (a0:OA) (a1:Int) (a2_0:Int) (a2_1:Int) (a2_2p:OA) (a2_2l:Nat) (a2_2c:Nat) (a2_3:Int) (a3p:OA) (a3l:Nat) (a3c:Nat) (w:World) (R:KV):Prop :=
 zaf w (.cells #[(i6 a2_0),(i6 a2_1),(.slice a2_2p a2_2l a2_2c),(i6 a2_3)] 70) fun w1=>zbf w1 fun w2=>gI .i64 w2 ⟨w.heap.size,1,none⟩ fun n1=>optP a0 fun ad1=>gI .i64 w2 (Addr.add ad1 5) fun n2=>CV 136 #[(i6 n1),(i6 n2)] w2 fun v3 w3=>asB v3 fun b1=>ifB b1 (R (i6 80) w3) (mb13 w3 w.heap.size fun n3 n4 l1p l1l l1c n5=>CV 40 #[(.agg #[(i6 n3),(i6 n4),(.slice l1p l1l l1c),(i6 n5)])] w3 fun v8 w4=>asL v8 fun l2p l2l l2c=>∃ m,L96_1 R m a0 a1 a3p a3l a3c ⟨w.heap.size,0,none⟩ l2p l2l l2c (l2l:Nat) 0 w4)
def A96 (R:KV):Ann:=(sN (.seq (.seq (.draw [0,1,2,3,4,5,6]) .no) (.join (fun e ds w=>nilD ds (asP (e 0) fun x0=>aI e 1 fun x1=>asA (e 6) fun x6=>J96_0 R x0 x1 x6 w)) (sN (.block (.loop (fun m e ds w=>nilD ds (asP (e 0) fun x0=>aI e 1 fun x1=>asL (e 3) fun x3p x3l x3c=>asA (e 6) fun x6=>asL (e 22) fun x22p x22l x22c=>aI e 23 fun x23=>aI e 24 fun x24=>L96_1 R m x0 x1 x3p x3l x3c x6 x22p x22l x22c x23 x24 w)) (fun kL96_1=>.no)))) (sN (sN (.seq (sN (.block (.join (fun e ds w=>nilD ds (asP (e 0) fun x0=>aI e 1 fun x1=>asA (e 6) fun x6=>asA (e 11) fun x11=>aI e 12 fun x12=>aI e 58 fun x58=>asB (e 59) fun x59=>J96_2 R x0 x1 x6 x11 x12 x58 x59 w)) .no (.cond (sN (.seq (.draw [0,1,2,3,4,5,6,7,8,9,10,11,12,13,14,15,16]) (.seq (.draw [0,1,2,3,4,5,6,7,8,9,10,11,12,13]) .no))) (sN (.cond .no (sN (.cond .no (.join (fun e ds w=>nilD ds (asP (e 0) fun x0=>asA (e 6) fun x6=>aI e 12 fun x12=>asB (e 114) fun x114=>J96_3 R x0 x6 x12 x114 w)) .no .no))))))))) .no))))))
theorem sides96 (R:KV):zak PP Tryz.f96 (A96 R) R:=by
 exact (zt (ai (ai trivial trivial) (ai (zsi fun e w h=>eP h fun z0 h=>eI h fun z1 h=>eA h fun z6 h=>by rw [← zag (aC z0 (aC z1 (aC z6 aN)))];exact zq h) (ai (zt (ai (zsi fun e w h=>eP h fun z0 h=>eI h fun z1 h=>eL h fun z3 h=>eA h fun z6 h=>eL h fun z22 h=>eI h fun z23 h=>eI h fun z24 h=>h) (ai (fun kL96_1=>zsi fun e w h=>eP h fun z0 h=>eI h fun z1 h=>eL h fun z3 h=>eA h fun z6 h=>eL h fun z22 h=>eI h fun z23 h=>eI h fun z24 h=>by rw [← zag (aC z0 (aC z1 (aC z3 (aC z6 (aC z22 (aC z23 (aC z24 aN)))))))];exact zq h) (fun kL96_1=>trivial)))) (zt (zt (ai (zt (ai (zsi fun e w h=>eP h fun z0 h=>eI h fun z1 h=>eA h fun z6 h=>eA h fun z11 h=>eI h fun z12 h=>eI h fun z58 h=>eB h fun z59 h=>by rw [← zag (aC z0 (aC z1 (aC z6 (aC z11 (aC z12 (aC z58 (aC z59 aN)))))))];exact zq h) (zt (ai (zt (zt (ai trivial trivial))) (zt (zt (zt (zt (ai (zsi fun e w h=>eP h fun z0 h=>eA h fun z6 h=>eI h fun z12 h=>eB h fun z114 h=>by rw [← zag (aC z0 (aC z6 (aC z12 (aC z114 aN))))];exact zq h) (ai trivial trivial)))))))))) trivial)))))))
theorem call96 (a0:OA) (a1:Int) (a2_0:Int) (a2_1:Int) (a2_2p:OA) (a2_2l:Nat) (a2_2c:Nat) (a2_3:Int) (a3p:OA) (a3l:Nat) (a3c:Nat) (w:World) (R:KV) (h:F96 a0 a1 a2_0 a2_1 a2_2p a2_2l a2_2c a2_3 a3p a3l a3c w R):zaj PP 96 #[(.pointer a0),(i6 a1),(.agg #[(i6 a2_0),(i6 a2_1),(.slice a2_2p a2_2l a2_2c),(i6 a2_3)]),(.slice a3p a3l a3c)] w R :=
 zah (an:=A96 R) Tryz.func96 rfl (sides96 R) (Eq.mp (by kernel_rfl) h)

def J97_2 (R:KV) (C_L97_1:OA→Addr→Addr→OA→Nat→Nat→Int→Int→World→Prop) (x9:OA) (x11:Addr) (x12:Addr) (x64p:OA) (x64l:Nat) (x64c:Nat) (x65:Int) (x66:Int) (w:World):Prop :=
 C_L97_1 x9 x11 x12 x64p x64l x64c x65 (IntKind.wrap .i64 (x66+1)) w
def L97_5 (R:KV) (C_L97_1:OA→Addr→Addr→OA→Nat→Nat→Int→Int→World→Prop):Nat→OA→Addr→Addr→Addr→Addr→Addr→Addr→Addr→OA→Nat→Nat→Int→Int→OA→Nat→Nat→Int→Int→World→Prop
 | 0=>fun _ _ _ _ _ _ _ _ _ _ _ _ _ _ _ _ _ _ _=>False
 | k+1=>fun x9 x11 x12 x14 x17_c0 x17_c1 x17_c2 x17_c3 x64p x64l x64c x65 x66 x115p x115l x115c x116 x117 w=>ifB (decide ((x117:Int) < x116)) (semK PP (Instr.indexAt 29 (.slice x115p x115l x115c) (i6 x117)) w fun v1 w1=>asA v1 fun ad1=>gI .i64 w1 ad1 fun n1=>optP x9 fun ad2=>ldK PP w1 (Addr.add ad2 5) fun v3=>asM v3 fun m1=>semK PP (Instr.lookup 165 (.map m1) (i6 n1) false) w1 fun v4 w2=>asI .i64 v4 fun n2=>CV 142 #[(i6 n2),(.pointer (some x17_c0)),(.pointer (some x17_c1)),(.pointer (some x17_c2)),(.pointer (some x17_c3))] w2 fun v5 w3=>asB v5 fun b1=>ifB (!b1) (zbf w3 fun w4=>gI .i64 w4 x14 fun n3=>R (.tuple #[(.slice none 0 0),(i6 72),(i6 n3)]) w4) (L97_5 R C_L97_1 k x9 x11 x12 x14 x17_c0 x17_c1 x17_c2 x17_c3 x64p x64l x64c x65 x66 x115p x115l x115c x116 (IntKind.wrap .i64 (x117+1)) w3)) (J97_2 R C_L97_1 x9 x11 x12 x64p x64l x64c x65 x66 w)
def J97_4 (R:KV) (C_L97_1:OA→Addr→Addr→OA→Nat→Nat→Int→Int→World→Prop) (x9:OA) (x11:Addr) (x12:Addr) (x14:Addr) (x17_c0:Addr) (x17_c1:Addr) (x17_c2:Addr) (x17_c3:Addr) (x64p:OA) (x64l:Nat) (x64c:Nat) (x65:Int) (x66:Int) (w:World):Prop :=
 ma12 w x14 fun n1 n2 l1p l1l l1c n3=>CV 40 #[(.agg #[(i6 n1),(i6 n2),(.slice l1p l1l l1c),(i6 n3)])] w fun v5 w1=>asL v5 fun l2p l2l l2c=>∃ m,L97_5 R C_L97_1 m x9 x11 x12 x14 x17_c0 x17_c1 x17_c2 x17_c3 x64p x64l x64c x65 x66 l2p l2l l2c (l2l:Nat) 0 w1
def J97_3 (R:KV) (C_L97_1:OA→Addr→Addr→OA→Nat→Nat→Int→Int→World→Prop) (x9:OA) (x11:Addr) (x12:Addr) (x13:Addr) (x14:Addr) (x16:Addr) (x64p:OA) (x64l:Nat) (x64c:Nat) (x65:Int) (x66:Int) (w:World):Prop :=
 gI .i64 w (Addr.add x14 1) fun n1=>CV 36 #[(i6 n1)] w fun v2 w1=>dT19 v2 fun n2 s1 n3 n4 n5 n6 b1 b2=>zaf w1 (.cells #[(i6 0),(.string ⟨#[]⟩),(i6 0),(i6 0),(i6 0),(i6 0),(.bool false)] 101) fun w2=>sU 101 ⟨w1.heap.size,0,none⟩ (.agg #[(i6 n2),(.string s1),(i6 n3),(i6 n4),(i6 n5),(i6 n6),(.bool b1)]) w2 fun w3=>gB w3 ⟨w1.heap.size,6,none⟩ fun b3=>ifB (!b3) (gI .i64 w3 x13 fun n7=>CV 142 #[(i6 (IntKind.wrap .i64 (n7+1))),(.pointer (some x13)),(.pointer (some x11)),(.pointer (some x16)),(.pointer (some x12))] w3 fun v5 w4=>asB v5 fun b4=>J97_4 R C_L97_1 x9 x11 x12 x14 x13 x11 x16 x12 x64p x64l x64c x65 x66 w4) (J97_4 R C_L97_1 x9 x11 x12 x14 x13 x11 x16 x12 x64p x64l x64c x65 x66 w3)
def L97_6 (R:KV):Nat→Addr→OA→Nat→Nat→OA→Nat→Nat→Int→Int→World→Prop
 | 0=>fun _ _ _ _ _ _ _ _ _ _=>False
 | k+1=>fun x11 x22p x22l x22c x143p x143l x143c x144 x145 w=>ifB (decide ((x145:Int) < x144)) (semK PP (Instr.indexAt 148 (.slice x143p x143l x143c) (i6 x145)) w fun v1 w1=>asA v1 fun ad1=>ma12 w1 ad1 fun n1 n2 l1p l1l l1c n3=>zaf w1 (.cells #[(i6 0),(i6 0),(.slice none 0 0),(i6 0)] 70) fun w2=>sU 70 ⟨w1.heap.size,0,none⟩ (.agg #[(i6 n1),(i6 n2),(.slice l1p l1l l1c),(i6 n3)]) w2 fun w3=>zbf w3 fun w4=>gI .i64 w4 ⟨w1.heap.size,0,none⟩ fun n4=>gL w4 x11 fun l2p l2l l2c=>semK PP (Instr.indexAt 237 (.slice l2p l2l l2c) (i6 x145)) w4 fun v8 w5=>asA v8 fun ad2=>gI .i64 w4 ad2 fun n5=>gL w4 x11 fun l3p l3l l3c=>semK PP (Instr.indexAt 237 (.slice l3p l3l l3c) (i6 x145)) w4 fun v11 w6=>asA v11 fun ad3=>gI .i64 w4 (Addr.add ad3 1) fun n6=>zaf w4 (.cells #[(i6 n4),(i6 n5),(i6 n6)] 158) fun w7=>semK PP (Builtin.append_ #[150,150] 150 #[(.slice x22p x22l x22c),(.slice (some ⟨w4.heap.size,0,none⟩) 1 1)]) w7 fun v13 w8=>asL v13 fun l4p l4l l4c=>L97_6 R k x11 l4p l4l l4c x143p x143l x143c x144 (IntKind.wrap .i64 (x145+1)) w8) (R (.tuple #[(.slice x22p x22l x22c),(i6 0),(i6 0)]) w)
def J97_0 (R:KV) (x9:OA) (x11:Addr) (w:World):Prop :=
 optP x9 fun ad1=>gL w (Addr.add ad1 4) fun l1p l1l l1c=>semK PP (Instr.makeSlice 150 (i6 0) (i6 (l1l:Nat))) w fun v2 w1=>asL v2 fun l2p l2l l2c=>optP x9 fun ad2=>gL w1 (Addr.add ad2 4) fun l3p l3l l3c=>∃ m,L97_6 R m x11 l2p l2l l2c l3p l3l l3c (l3l:Nat) 0 w1
def L97_1 (R:KV):Nat→OA→Addr→Addr→OA→Nat→Nat→Int→Int→World→Prop
 | 0=>fun _ _ _ _ _ _ _ _ _=>False
 | k+1=>fun x9 x11 x12 x64p x64l x64c x65 x66 w=>ifB (decide ((x66:Int) < x65)) (semK PP (Instr.indexAt 148 (.slice x64p x64l x64c) (i6 x66)) w fun v1 w1=>asA v1 fun ad1=>ma12 w1 ad1 fun n1 n2 l1p l1l l1c n3=>zaf w1 (.cells #[(i6 0)] 3) fun w2=>zaf w2 (.cells #[(i6 0),(i6 0),(.slice none 0 0),(i6 0)] 70) fun w3=>sU 3 ⟨w1.heap.size,0,none⟩ (i6 x66) w3 fun w4=>sU 70 ⟨w2.heap.size,0,none⟩ (.agg #[(i6 n1),(i6 n2),(.slice l1p l1l l1c),(i6 n3)]) w4 fun w5=>gL w5 x12 fun l2p l2l l2c=>gI .i64 w5 ⟨w1.heap.size,0,none⟩ fun n4=>semK PP (Instr.indexAt 47 (.slice l2p l2l l2c) (i6 n4)) w5 fun v8 w6=>asA v8 fun ad2=>gB w6 ad2 fun b1=>ifB (!b1) (zbf w6 fun w7=>gI .i64 w7 ⟨w2.heap.size,0,none⟩ fun n5=>R (.tuple #[(.slice none 0 0),(i6 73),(i6 n5)]) w7) (zbf w6 fun w8=>mb13 w8 w2.heap.size fun n6 n7 l3p l3l l3c n8=>gL w8 x11 fun l4p l4l l4c=>gI .i64 w8 ⟨w1.heap.size,0,none⟩ fun n9=>semK PP (Instr.indexAt 237 (.slice l4p l4l l4c) (i6 n9)) w8 fun v17 w9=>asA v17 fun ad3=>ma33 w8 ad3 fun n10 n11=>CV 139 #[(.pointer x9),(.agg #[(i6 n6),(i6 n7),(.slice l3p l3l l3c),(i6 n8)]),(.agg #[(i6 n10),(i6 n11)])] w8 fun v20 w10=>asI .i64 v20 fun n12=>ifB ((n12:Int) != 0) (zbf w10 fun w11=>gI .i64 w11 ⟨w2.heap.size,0,none⟩ fun n13=>R (.tuple #[(.slice none 0 0),(i6 n12),(i6 n13)]) w11) (zbf w10 fun w12=>gL w12 x11 fun l5p l5l l5c=>gI .i64 w12 ⟨w1.heap.size,0,none⟩ fun n14=>semK PP (Instr.indexAt 237 (.slice l5p l5l l5c) (i6 n14)) w12 fun v24 w13=>asA v24 fun ad4=>ma33 w12 ad4 fun n15 n16=>mb13 w12 w2.heap.size fun n17 n18 l6p l6l l6c n19=>(CV 141 #[(.pointer x9),(.agg #[(i6 n17),(i6 n18),(.slice l6p l6l l6c),(i6 n19)])] w12 fun v45 w18=>dT3 v45 fun n33 n34=>(gL w18 x11 fun l10p l10l l10c=>((.slice l10p l10l l10c):Value)=(.slice l5p l5l l5c))∧((gI .i64 w18 ⟨w1.heap.size,0,none⟩ fun n35=>((i6 n35):Value)=(i6 n14))∧((ma33 w18 ad4 fun n36 n37=>((.agg #[(i6 n36),(i6 n37)]):Value)=(.agg #[(i6 n15),(i6 n16)]))∧((CV 140 #[(.agg #[(i6 n15),(i6 n16)]),(i6 n33),(i6 n34)] w18 fun v59 w22=>dG31 v59 fun n46 n47=>(zaf w22 (.cells #[(i6 0),(i6 0)] 241) fun w23=>(gL w23 x11 fun l13p l13l l13c=>((.slice l13p l13l l13c):Value)=(.slice l5p l5l l5c))∧((gI .i64 w23 ⟨w1.heap.size,0,none⟩ fun n48=>((i6 n48):Value)=(i6 n14))∧((ma33 w23 ad4 fun n49 n50=>((.agg #[(i6 n49),(i6 n50)]):Value)=(.agg #[(i6 n15),(i6 n16)]))∧((mb13 w23 w2.heap.size fun n51 n52 l14p l14l l14c n53=>((.agg #[(i6 n51),(i6 n52),(.slice l14p l14l l14c),(i6 n53)]):Value)=(.agg #[(i6 n17),(i6 n18),(.slice l6p l6l l6c),(i6 n19)]))∧((sU 241 ⟨w22.heap.size,0,none⟩ (.agg #[(i6 n46),(i6 n47)]) w23 fun w24=>J97_3 R (L97_1 R k) x9 x11 x12 ⟨w1.heap.size,0,none⟩ ⟨w2.heap.size,0,none⟩ ⟨w22.heap.size,0,none⟩ x64p x64l x64c x65 x66 w24)∧(True))))))∧(True))∧((zaf w18 (.cells #[(i6 0),(i6 0)] 241) fun w19=>(gL w19 x11 fun l11p l11l l11c=>((.slice l11p l11l l11c):Value)=(.slice l5p l5l l5c))∧((gI .i64 w19 ⟨w1.heap.size,0,none⟩ fun n38=>((i6 n38):Value)=(i6 n14))∧((ma33 w19 ad4 fun n39 n40=>((.agg #[(i6 n39),(i6 n40)]):Value)=(.agg #[(i6 n15),(i6 n16)]))∧((mb13 w19 w2.heap.size fun n41 n42 l12p l12l l12c n43=>((.agg #[(i6 n41),(i6 n42),(.slice l12p l12l l12c),(i6 n43)]):Value)=(.agg #[(i6 n17),(i6 n18),(.slice l6p l6l l6c),(i6 n19)]))∧((CV 140 #[(.agg #[(i6 n15),(i6 n16)]),(i6 n33),(i6 n34)] w19 fun v58 w20=>dG31 v58 fun n44 n45=>(sU 241 ⟨w18.heap.size,0,none⟩ (.agg #[(i6 n44),(i6 n45)]) w20 fun w21=>J97_3 R (L97_1 R k) x9 x11 x12 ⟨w1.heap.size,0,none⟩ ⟨w2.heap.size,0,none⟩ ⟨w18.heap.size,0,none⟩ x64p x64l x64c x65 x66 w21)∧(True))∧(True))))))∧(True))))))∧((zaf w12 (.cells #[(i6 0),(i6 0)] 241) fun w14=>(gL w14 x11 fun l7p l7l l7c=>((.slice l7p l7l l7c):Value)=(.slice l5p l5l l5c))∧((gI .i64 w14 ⟨w1.heap.size,0,none⟩ fun n20=>((i6 n20):Value)=(i6 n14))∧((ma33 w14 ad4 fun n21 n22=>((.agg #[(i6 n21),(i6 n22)]):Value)=(.agg #[(i6 n15),(i6 n16)]))∧((mb13 w14 w2.heap.size fun n23 n24 l8p l8l l8c n25=>((.agg #[(i6 n23),(i6 n24),(.slice l8p l8l l8c),(i6 n25)]):Value)=(.agg #[(i6 n17),(i6 n18),(.slice l6p l6l l6c),(i6 n19)]))∧((CV 141 #[(.pointer x9),(.agg #[(i6 n17),(i6 n18),(.slice l6p l6l l6c),(i6 n19)])] w14 fun v39 w15=>dT3 v39 fun n26 n27=>(gL w15 x11 fun l9p l9l l9c=>((.slice l9p l9l l9c):Value)=(.slice l5p l5l l5c))∧((gI .i64 w15 ⟨w1.heap.size,0,none⟩ fun n28=>((i6 n28):Value)=(i6 n14))∧((ma33 w15 ad4 fun n29 n30=>((.agg #[(i6 n29),(i6 n30)]):Value)=(.agg #[(i6 n15),(i6 n16)]))∧((CV 140 #[(.agg #[(i6 n15),(i6 n16)]),(i6 n26),(i6 n27)] w15 fun v44 w16=>dG31 v44 fun n31 n32=>(sU 241 ⟨w12.heap.size,0,none⟩ (.agg #[(i6 n31),(i6 n32)]) w16 fun w17=>J97_3 R (L97_1 R k) x9 x11 x12 ⟨w1.heap.size,0,none⟩ ⟨w2.heap.size,0,none⟩ ⟨w12.heap.size,0,none⟩ x64p x64l x64c x65 x66 w17)∧(True))∧(True)))))∧(True))))))∧(True))))) (J97_0 R x9 x11 w)
def F97 (a0p:OA) (a0l:Nat) (a0c:Nat) (a1:Int) (a2p:OA) (a2l:Nat) (a2c:Nat) (w:World) (R:KV):Prop :=
 CV 138 #[(.slice a0p a0l a0c),(i6 a1),(.slice a2p a2l a2c)] w fun v1 w1=>dT34 v1 fun p1 b1=>ifB (!b1) (R (.tuple #[(.slice none 0 0),(i6 1),(i6 0)]) w1) (optP p1 fun ad1=>gL w1 (Addr.add ad1 4) fun l1p l1l l1c=>semK PP (Instr.makeSlice 237 (i6 (l1l:Nat)) (i6 (l1l:Nat))) w1 fun v3 w2=>asL v3 fun l2p l2l l2c=>zaf w2 (.cells #[(.slice none 0 0)] 237) fun w3=>sU 237 ⟨w2.heap.size,0,none⟩ (.slice l2p l2l l2c) w3 fun w4=>optP p1 fun ad2=>gL w4 (Addr.add ad2 4) fun l3p l3l l3c=>semK PP (Instr.makeSlice 47 (i6 (l3l:Nat)) (i6 (l3l:Nat))) w4 fun v5 w5=>asL v5 fun l4p l4l l4c=>zaf w5 (.cells #[(.slice none 0 0)] 47) fun w6=>sU 47 ⟨w5.heap.size,0,none⟩ (.slice l4p l4l l4c) w6 fun w7=>zbf w7 fun w8=>gL w8 ⟨w2.heap.size,0,none⟩ fun l5p l5l l5c=>gL w8 ⟨w5.heap.size,0,none⟩ fun l6p l6l l6c=>optP p1 fun ad3=>gI .i64 w8 (Addr.add ad3 1) fun n1=>optP p1 fun ad4=>gI .i64 w8 (Addr.add ad4 1) fun n2=>semK PP (Instr.indexAt 237 (.slice l5p l5l l5c) (i6 0)) w8 fun v10 w9=>asA v10 fun ad5=>sU 241 ad5 (.agg #[(i6 n1),(i6 n2)]) w8 fun w10=>(gL w10 ⟨w5.heap.size,0,none⟩ fun l7p l7l l7c=>((.slice l7p l7l l7c):Value)=(.slice l6p l6l l6c))∧(semK PP (Instr.indexAt 47 (.slice l6p l6l l6c) (i6 0)) w10 fun v12 w11=>asA v12 fun ad6=>sU 4 ad6 (.bool true) w10 fun w12=>optP p1 fun ad7=>gL w12 (Addr.add ad7 4) fun l8p l8l l8c=>∃ m,L97_1 R m p1 ⟨w2.heap.size,0,none⟩ ⟨w5.heap.size,0,none⟩ l8p l8l l8c (l8l:Nat) 0 w12))
def A97 (R:KV):Ann:=(sN (sN (sN (sN (sN (.seq (.draw [0,1,2,3,4,5,6,7,8,9,10,11,12,13,14,15,16]) (.join (fun e ds w=>nilD ds (asP (e 9) fun x9=>asA (e 11) fun x11=>J97_0 R x9 x11 w)) (sN (.block (.loop (fun m e ds w=>nilD ds (asP (e 9) fun x9=>asA (e 11) fun x11=>asA (e 12) fun x12=>asL (e 64) fun x64p x64l x64c=>aI e 65 fun x65=>aI e 66 fun x66=>L97_1 R m x9 x11 x12 x64p x64l x64c x65 x66 w)) (fun kL97_1=>(sN (sN (.join (fun e ds w=>nilD ds (asP (e 9) fun x9=>asA (e 11) fun x11=>asA (e 12) fun x12=>asL (e 64) fun x64p x64l x64c=>aI e 65 fun x65=>aI e 66 fun x66=>J97_2 R (L97_1 R kL97_1) x9 x11 x12 x64p x64l x64c x65 x66 w)) (.block (sN (.seq (sN (.cond (.seq (.draw [0,1,2,3,4]) .no) .no)) (.seq (.seq (.draw [0,1,2,3,4,5,6,7]) (sN (.cond (.seq (.draw [0,1,2,3,4,5]) .no) .no))) (.join (fun e ds w=>nilD ds (asP (e 9) fun x9=>asA (e 11) fun x11=>asA (e 12) fun x12=>asA (e 13) fun x13=>asA (e 14) fun x14=>asA (e 16) fun x16=>asL (e 64) fun x64p x64l x64c=>aI e 65 fun x65=>aI e 66 fun x66=>J97_3 R (L97_1 R kL97_1) x9 x11 x12 x13 x14 x16 x64p x64l x64c x65 x66 w)) (.drawT (.light 0 (.light 1 (.light 2 (.light 3 (.light 4 (.light 5 (.alt 6 (.light 7 (.light 8 (.alt 9 (.alt 10 (.alt 11 .done .none) .none) (.alt 10 (.alt 9 (.alt 11 .done .none) .none) .none)))) (.alt 10 (.alt 6 (.light 7 (.light 8 (.alt 9 (.alt 11 .done .none) .none))) .none) .none))))))))) (sN (.join (fun e ds w=>nilD ds (asP (e 9) fun x9=>asA (e 11) fun x11=>asA (e 12) fun x12=>asA (e 14) fun x14=>asF 142 (e 17) fun x17fs0 x17cs0=>zav x17fs0 (asHd x17cs0 fun x17_c0v x17cs1=>asA x17_c0v fun x17_c0=>asHd x17cs1 fun x17_c1v x17cs2=>asA x17_c1v fun x17_c1=>asHd x17cs2 fun x17_c2v x17cs3=>asA x17_c2v fun x17_c2=>asHd x17cs3 fun x17_c3v x17cs4=>asA x17_c3v fun x17_c3=>zav x17cs4 (asL (e 64) fun x64p x64l x64c=>aI e 65 fun x65=>aI e 66 fun x66=>J97_4 R (L97_1 R kL97_1) x9 x11 x12 x14 x17_c0 x17_c1 x17_c2 x17_c3 x64p x64l x64c x65 x66 w)))) .no (sN (.block (.loop (fun m e ds w=>nilD ds (asP (e 9) fun x9=>asA (e 11) fun x11=>asA (e 12) fun x12=>asA (e 14) fun x14=>asF 142 (e 17) fun x17fs0 x17cs0=>zav x17fs0 (asHd x17cs0 fun x17_c0v x17cs1=>asA x17_c0v fun x17_c0=>asHd x17cs1 fun x17_c1v x17cs2=>asA x17_c1v fun x17_c1=>asHd x17cs2 fun x17_c2v x17cs3=>asA x17_c2v fun x17_c2=>asHd x17cs3 fun x17_c3v x17cs4=>asA x17_c3v fun x17_c3=>zav x17cs4 (asL (e 64) fun x64p x64l x64c=>aI e 65 fun x65=>aI e 66 fun x66=>asL (e 115) fun x115p x115l x115c=>aI e 116 fun x116=>aI e 117 fun x117=>L97_5 R (L97_1 R kL97_1) m x9 x11 x12 x14 x17_c0 x17_c1 x17_c2 x17_c3 x64p x64l x64c x65 x66 x115p x115l x115c x116 x117 w)))) (fun kL97_5=>(sN (sN (.seq (.block (sN (sN (.cond (.seq (.draw [0,1,2,3,4]) .no) .no)))) .no)))))))))))))) .no))))))) (sN (.seq (sN (.block (.loop (fun m e ds w=>nilD ds (asA (e 11) fun x11=>asL (e 22) fun x22p x22l x22c=>asL (e 143) fun x143p x143l x143c=>aI e 144 fun x144=>aI e 145 fun x145=>L97_6 R m x11 x22p x22l x22c x143p x143l x143c x144 x145 w)) (fun kL97_6=>(sN (sN (.seq (.block (sN (.draw [0,1,2,3,4,5,6,7,8,9,10,11,12,13,14,15,16]))) .no))))))) .no)))))))))
theorem sides97 (R:KV):zak PP Tryz.f97 (A97 R) R:=by
 exact (zt (zt (zt (zt (zt (zt (ai (zsi fun e w h=>eP h fun z9 h=>eA h fun z11 h=>by rw [← zag (aC z9 (aC z11 aN))];exact zq h) (ai (zt (ai (zsi fun e w h=>eP h fun z9 h=>eA h fun z11 h=>eA h fun z12 h=>eL h fun z64 h=>eI h fun z65 h=>eI h fun z66 h=>h) (ai (fun kL97_1=>zsi fun e w h=>eP h fun z9 h=>eA h fun z11 h=>eA h fun z12 h=>eL h fun z64 h=>eI h fun z65 h=>eI h fun z66 h=>by rw [← zag (aC z9 (aC z11 (aC z12 (aC z64 (aC z65 (aC z66 aN))))))];exact zq h) (fun kL97_1=>(zt (zt (ai (zsi fun e w h=>eP h fun z9 h=>eA h fun z11 h=>eA h fun z12 h=>eL h fun z64 h=>eI h fun z65 h=>eI h fun z66 h=>by rw [← zag (aC z9 (aC z11 (aC z12 (aC z64 (aC z65 (aC z66 aN))))))];exact zq h) (ai (zt (ai (zt (ai (ai trivial trivial) trivial)) (ai (zt (zt (ai (ai trivial trivial) trivial))) (ai (zsi fun e w h=>eP h fun z9 h=>eA h fun z11 h=>eA h fun z12 h=>eA h fun z13 h=>eA h fun z14 h=>eA h fun z16 h=>eL h fun z64 h=>eI h fun z65 h=>eI h fun z66 h=>by rw [← zag (aC z9 (aC z11 (aC z12 (aC z13 (aC z14 (aC z16 (aC z64 (aC z65 (aC z66 aN)))))))))];exact zq h) (zt (zt (ai (by intro e ds w h;replace h:=zad h;obtain ⟨rfl,h⟩:=h;obtain ⟨_,z9,h⟩:=zai h;obtain ⟨_,z11,h⟩:=zac h;obtain ⟨_,z12,h⟩:=zac h;obtain ⟨_,z14,h⟩:=zac h;obtain ⟨x17f,x17c,z17,h⟩:=asF_elim h;have z17_fe:=zcz h;replace h:=z17_fe.2;obtain ⟨x17_c0u,x17c0r,z17_c0q,h⟩:=zal h;obtain ⟨_,z17_c0,h⟩:=zac h;obtain ⟨x17_c1u,x17c1r,z17_c1q,h⟩:=zal h;obtain ⟨_,z17_c1,h⟩:=zac h;obtain ⟨x17_c2u,x17c2r,z17_c2q,h⟩:=zal h;obtain ⟨_,z17_c2,h⟩:=zac h;obtain ⟨x17_c3u,x17c3r,z17_c3q,h⟩:=zal h;obtain ⟨_,z17_c3,h⟩:=zac h;have z17_ce:=zcz h;replace h:=z17_ce.2;rw [z17_fe.1,z17_c0q,z17_c1q,z17_c2q,z17_c3q,z17_ce.1,z17_c0,z17_c1,z17_c2,z17_c3] at z17;obtain ⟨_,_,_,z64,h⟩:=zab h;obtain ⟨_,z65,h⟩:=zaa h;obtain ⟨_,z66,h⟩:=zaa h;rw [← zag (aC z9 (aC z11 (aC z12 (aC z14 (aC z17 (aC z64 (aC z65 (aC z66 aN))))))))];exact Eq.mp (by kernel_rfl) h) (zt (zt (ai (by intro e ds w h;replace h:=zad h;obtain ⟨rfl,h⟩:=h;obtain ⟨_,z9,h⟩:=zai h;obtain ⟨_,z11,h⟩:=zac h;obtain ⟨_,z12,h⟩:=zac h;obtain ⟨_,z14,h⟩:=zac h;obtain ⟨x17f,x17c,z17,h⟩:=asF_elim h;have z17_fe:=zcz h;replace h:=z17_fe.2;obtain ⟨x17_c0u,x17c0r,z17_c0q,h⟩:=zal h;obtain ⟨_,z17_c0,h⟩:=zac h;obtain ⟨x17_c1u,x17c1r,z17_c1q,h⟩:=zal h;obtain ⟨_,z17_c1,h⟩:=zac h;obtain ⟨x17_c2u,x17c2r,z17_c2q,h⟩:=zal h;obtain ⟨_,z17_c2,h⟩:=zac h;obtain ⟨x17_c3u,x17c3r,z17_c3q,h⟩:=zal h;obtain ⟨_,z17_c3,h⟩:=zac h;have z17_ce:=zcz h;replace h:=z17_ce.2;rw [z17_fe.1,z17_c0q,z17_c1q,z17_c2q,z17_c3q,z17_ce.1,z17_c0,z17_c1,z17_c2,z17_c3] at z17;obtain ⟨_,_,_,z64,h⟩:=zab h;obtain ⟨_,z65,h⟩:=zaa h;obtain ⟨_,z66,h⟩:=zaa h;obtain ⟨_,_,_,z115,h⟩:=zab h;obtain ⟨_,z116,h⟩:=zaa h;obtain ⟨_,z117,h⟩:=zaa h;exact h) (ai (by intro kL97_5 e ds w h;replace h:=zad h;obtain ⟨rfl,h⟩:=h;obtain ⟨_,z9,h⟩:=zai h;obtain ⟨_,z11,h⟩:=zac h;obtain ⟨_,z12,h⟩:=zac h;obtain ⟨_,z14,h⟩:=zac h;obtain ⟨x17f,x17c,z17,h⟩:=asF_elim h;have z17_fe:=zcz h;replace h:=z17_fe.2;obtain ⟨x17_c0u,x17c0r,z17_c0q,h⟩:=zal h;obtain ⟨_,z17_c0,h⟩:=zac h;obtain ⟨x17_c1u,x17c1r,z17_c1q,h⟩:=zal h;obtain ⟨_,z17_c1,h⟩:=zac h;obtain ⟨x17_c2u,x17c2r,z17_c2q,h⟩:=zal h;obtain ⟨_,z17_c2,h⟩:=zac h;obtain ⟨x17_c3u,x17c3r,z17_c3q,h⟩:=zal h;obtain ⟨_,z17_c3,h⟩:=zac h;have z17_ce:=zcz h;replace h:=z17_ce.2;rw [z17_fe.1,z17_c0q,z17_c1q,z17_c2q,z17_c3q,z17_ce.1,z17_c0,z17_c1,z17_c2,z17_c3] at z17;obtain ⟨_,_,_,z64,h⟩:=zab h;obtain ⟨_,z65,h⟩:=zaa h;obtain ⟨_,z66,h⟩:=zaa h;obtain ⟨_,_,_,z115,h⟩:=zab h;obtain ⟨_,z116,h⟩:=zaa h;obtain ⟨_,z117,h⟩:=zaa h;rw [← zag (aC z9 (aC z11 (aC z12 (aC z14 (aC z17 (aC z64 (aC z65 (aC z66 (aC z115 (aC z116 (aC z117 aN)))))))))))];exact Eq.mp (by kernel_rfl) h) (fun kL97_5=>(zt (zt (ai (zt (zt (ai (ai trivial trivial) trivial))) trivial))))))))))))))) trivial)))))))) (zt (ai (zt (ai (zsi fun e w h=>eA h fun z11 h=>eL h fun z22 h=>eL h fun z143 h=>eI h fun z144 h=>eI h fun z145 h=>h) (ai (fun kL97_6=>zsi fun e w h=>eA h fun z11 h=>eL h fun z22 h=>eL h fun z143 h=>eI h fun z144 h=>eI h fun z145 h=>by rw [← zag (aC z11 (aC z22 (aC z143 (aC z144 (aC z145 aN)))))];exact zq h) (fun kL97_6=>(zt (zt (ai (ai trivial trivial) trivial))))))) trivial))))))))))
theorem call97 (a0p:OA) (a0l:Nat) (a0c:Nat) (a1:Int) (a2p:OA) (a2l:Nat) (a2c:Nat) (w:World) (R:KV) (h:F97 a0p a0l a0c a1 a2p a2l a2c w R):zaj PP 97 #[(.slice a0p a0l a0c),(i6 a1),(.slice a2p a2l a2c)] w R :=
 zah (an:=A97 R) Tryz.func97 rfl (sides97 R) (Eq.mp (by kernel_rfl) h)

def L98_0 (R:KV):Nat→Int→OA→Nat→Nat→Int→Int→World→Prop
 | 0=>fun _ _ _ _ _ _ _=>False
 | k+1=>fun x3 x6p x6l x6c x7 x8 w=>ifB (decide ((x8:Int) < x7)) (semK PP (Instr.indexAt 150 (.slice x6p x6l x6c) (i6 x8)) w fun v1 w1=>asA v1 fun ad1=>ma7 w1 ad1 fun n1 n2 n3=>zaf w1 (.cells #[(i6 0),(i6 0),(i6 0)] 158) fun w2=>sU 158 ⟨w1.heap.size,0,none⟩ (.agg #[(i6 n1),(i6 n2),(i6 n3)]) w2 fun w3=>ifB ((x8:Int) == 0) (gI .i64 w3 ⟨w1.heap.size,2,none⟩ fun n4=>L98_0 R k n4 x6p x6l x6c x7 (IntKind.wrap .i64 (x8+1)) w3) (gI .i64 w3 ⟨w1.heap.size,2,none⟩ fun n5=>ifB (decide ((n5:Int) > x3)) (gI .i64 w3 ⟨w1.heap.size,2,none⟩ fun n6=>L98_0 R k n6 x6p x6l x6c x7 (IntKind.wrap .i64 (x8+1)) w3) (L98_0 R k x3 x6p x6l x6c x7 (IntKind.wrap .i64 (x8+1)) w3))) (R (i6 x3) w)
def F98 (a0p:OA) (a0l:Nat) (a0c:Nat) (w:World) (R:KV):Prop :=
 ∃ m,L98_0 R m 0 a0p a0l a0c (a0l:Nat) 0 w
def A98 (R:KV):Ann:=(sN (sN (.seq (sN (.block (.loop (fun m e ds w=>nilD ds (aI e 3 fun x3=>asL (e 6) fun x6p x6l x6c=>aI e 7 fun x7=>aI e 8 fun x8=>L98_0 R m x3 x6p x6l x6c x7 x8 w)) (fun kL98_0=>.no)))) .no)))
theorem sides98 (R:KV):zak PP Tryz.f98 (A98 R) R:=by
 exact (zt (zt (ai (zt (ai (zsi fun e w h=>eI h fun z3 h=>eL h fun z6 h=>eI h fun z7 h=>eI h fun z8 h=>h) (ai (fun kL98_0=>zsi fun e w h=>eI h fun z3 h=>eL h fun z6 h=>eI h fun z7 h=>eI h fun z8 h=>by rw [← zag (aC z3 (aC z6 (aC z7 (aC z8 aN))))];exact zq h) (fun kL98_0=>trivial)))) trivial)))
theorem call98 (a0p:OA) (a0l:Nat) (a0c:Nat) (w:World) (R:KV) (h:F98 a0p a0l a0c w R):zaj PP 98 #[(.slice a0p a0l a0c)] w R :=
 zah (an:=A98 R) Tryz.func98 rfl (sides98 R) (Eq.mp (by kernel_rfl) h)
end Go.Proofs.YtlfhngoeecjfpaaGreatDoor.W
namespace Go.Proofs.YtlfhngoeecjfpaaGreatDoor.B
open Go Go.RowKit Go.Proofs.YtlfhngoeecjfpaaGreatDoor.Sh Go.Proofs.YtlfhngoeecjfpaaGreatDoor.W
theorem zco {p q:Prop} (h:p):ifB (!false) p q:=h
theorem zcj {p q:Prop} (h:q):ifB (!true) p q:=h
theorem rdC {P:Program} {Z:Nat→Prop} {w0 w:World} {L:List Ent} {t e:TypeId} {p:Option Addr} {n c:Nat} {l:List UInt8} {k:IntKind} {i:Int} {F:Int→Prop} (h:Hp Z w0 w L) [hm:SeeIn L p n c 1 (u8s l)]
  (ht:P.underlying t=some (.slice e)) (hz:(P.info? e).map (·.size)=some 1) (h0:0≤i) (h1:i < (n:Int)) (kk:∀ b:UInt8,l[i.toNat]? = some b→F (b.toNat:Int)) :
  semK P (Instr.indexAt t (.slice p n c) (.int k i)) w fun v1 w1=>asA v1 fun ad=>ldK P w ad fun v2=>asI .u8 v2 fun x=>F x:=by
 have hs:=h.sees hm.pos
 have hn:=hs.bytes
 have hi:i.toNat < l.length:=by omega
 obtain ⟨a,ha,_⟩:=hs.addr (by omega) (by omega)
 subst ha
 refine ixS ht hz h0 h1 ?_
 show ldK P w (a.add (i.toNat * 1)) _
 rw [Nat.mul_one]
 refine ld (hs.get rfl (u8s_get hi)) ?_
 rw [asI_int]
 exact kk _ (by simp [hi])
def lenT (imm:Int) (l:List UInt8):Int × Bool :=
 if imm = -1 then (match l with | []=>(0,false)|b::_=>(1+2 * ((b.toNat:Int)+1),true)) else (imm,true)
theorem f83 {cd imm inn out gas:Int} {s:ByteArray} {e:Bool} {p:Option Addr} {n c:Nat} {l:List UInt8} {w:World} {K:Value→World→Prop} (hs:Sees w 1 p n c (u8s l))
  (k:∀ w',Bl w w'→K (.tuple #[.int .i64 (lenT imm l).1,.bool (lenT imm l).2]) w') :
  zaj Tryz.prog 83 #[.agg #[.int .i64 cd,.string s,.int .i64 imm,.int .i64 inn,.int .i64 out,.int .i64 gas,.bool e],.slice p n c] w K:=by
 refine call83 _ _ _ _ _ _ _ _ _ _ _ _ ?_
 unfold F83
 have hn:=hs.bytes
 have hh:=Hp.see hs (Hp.start w) (by simp)
 repeat' first|(with_reducible first|refine kk_ ?_|refine nx hh ?_|refine allW fun w' hh=>?_|exact sd_|refine ifNe (fun hc=>?_) (fun hc=>?_)|refine ifE (fun hd=>?_) (fun hd=>?_)|refine rdB hh (by with_unfolding_all rfl) (by with_unfolding_all rfl) ?_ ?_ (fun b hb=>?_)|refine And.intro ?_ ?_|exact vr)|fail
 all_goals try omega
 ·have:lenT imm l=(imm,true):=by simp [lenT,hc]
  have kk:=k _ hh.done
  rw [this] at kk;exact kk
 ·have:l=[]:=List.length_eq_zero_iff.1 (by omega)
  have kk:=k _ hh.done
  rw [show lenT imm l=(0,false) by simp [lenT,hc,this]] at kk;exact kk
 ·have hb':=b.toNat_lt
  cases l with
  | nil=>simp at hb
  | cons b0 l =>
   simp at hb;subst hb
   have kk:=k _ hh.done
   rw [show lenT imm (b0::l)=(1+2 * ((b0.toNat:Int)+1),true) by simp [lenT,hc]] at kk
   have e1:IntKind.wrap .i64 (b0.toNat:Int)=b0.toNat:=i64w (by omega) (by omega)
   have e2:IntKind.wrap .i64 ((b0.toNat:Int)+1)=b0.toNat+1:=i64w (by omega) (by omega)
   have e3:IntKind.wrap .i64 (2 * ((b0.toNat:Int)+1))=2 * (b0.toNat+1):=i64w (by omega) (by omega)
   have e4:IntKind.wrap .i64 (1+2 * ((b0.toNat:Int)+1))=1+2 * (b0.toNat+1):=i64w (by omega) (by omega)
   rw [e1,e2,e3,e4]
   exact kk
theorem or256 {x y:Int} (h0:0≤x) (h1:x < 4503599627370496) (h2:0≤y) (h3:y < 256):bitI .or .i64 (x * 256) y=x * 256+y:=by
 obtain ⟨a,rfl⟩:=Int.eq_ofNat_of_zero_le h0
 obtain ⟨b,rfl⟩:=Int.eq_ofNat_of_zero_le h2
 have hb:b < 2 ^ 8:=by omega
 have e1:(BitVec.ofInt 64 ((a:Int) * 256)).toNat=a <<< 8:=by
  rw [BitVec.toNat_ofInt,Nat.shiftLeft_eq];omega
 have e2:(BitVec.ofInt 64 (b:Int)).toNat=b:=by rw [BitVec.toNat_ofInt];omega
 have e3:(BitVec.ofInt 64 ((a:Int) * 256) ||| BitVec.ofInt 64 (b:Int)).toNat=a * 256+b:=by
  rw [BitVec.toNat_or,e1,e2,← Nat.shiftLeft_add_eq_or_of_lt hb,Nat.shiftLeft_eq]
 show IntKind.wrap .i64 (((BitVec.ofInt 64 ((a:Int) * 256) ||| BitVec.ofInt 64 (b:Int)).toNat:Nat):Int)=_
 rw [e3,i64w (by omega) (by omega)]
 omega
def pairT (l:List UInt8):Int:=((l.getD 0 0).toNat:Int) * 256+(l.getD 1 0).toNat
theorem pairT_lt (l:List UInt8):0≤pairT l∧pairT l < 65536:=by
 have h0:=(l.getD 0 0).toNat_lt
 have h1:=(l.getD 1 0).toNat_lt
 unfold pairT;omega
theorem f82 {p:Option Addr} {n c:Nat} {l:List UInt8} {w:World} {K:Value→World→Prop} (hs:Sees w 1 p n c (u8s l)) (h2:2≤n)
  (k:∀ w',Bl w w'→K (.int .i64 (pairT l)) w'):zaj Tryz.prog 82 #[.slice p n c] w K:=by
 refine call82 _ _ _ _ _ ?_
 unfold F82
 have hn:=hs.bytes
 have hh:=Hp.see hs (Hp.start w) (by simp)
 repeat' first|(with_reducible first|refine kk_ ?_|refine nx hh ?_|refine allW fun w' hh=>?_|exact sd_|refine rdC hh (by with_unfolding_all rfl) (by with_unfolding_all rfl) ?_ ?_ (fun b hb=>?_)|refine And.intro ?_ ?_|exact vr)|fail
 all_goals try omega
 rename_i b0 hb0
 match l,hb0,hb with
 | x::y::l,hb0,hb =>
  simp at hb0 hb;subst hb0;subst hb
  have hx:=x.toNat_lt
  have hy:=y.toNat_lt
  have kk:=k _ hh.done
  have e1:IntKind.wrap .i64 (x.toNat:Int)=x.toNat:=i64w (by omega) (by omega)
  have e2:IntKind.wrap .i64 ((x.toNat:Int) * 2 ^ (min (8:Int).toNat 64))=x.toNat * 256:=by
   rw [show (2:Int) ^ (min (8:Int).toNat 64)=256 from rfl];exact i64w (by omega) (by omega)
  have e3:IntKind.wrap .i64 (y.toNat:Int)=y.toNat:=i64w (by omega) (by omega)
  rw [e1,e2,e3,or256 (by omega) (by omega) (by omega) (by omega)]
  exact kk
def zcu (at_ code:Int) (imm:List UInt8) (next:Int):Bool :=
 match opT code with
 | none=>false
 | some r=>decide (0≤at_) && decide (at_≤1048576) && (lenT r.imm imm).2 && decide ((lenT r.imm imm).1=(imm.length:Int)) && decide (next=at_+1+(lenT r.imm imm).1)
theorem f81 {at_ code next:Int} {p:Option Addr} {n c:Nat} {l:List UInt8} {w:World} {K:Value→World→Prop} (h0:0≤code) (h1:code < 256) (hs:Sees w 1 p n c (u8s l)) (hln:l.length≤1073741824)
  (k:∀ w',Bl w w'→K (.bool (zcu at_ code l next)) w'):zaj Tryz.prog 81 #[.agg #[.int .i64 at_,.int .i64 code,.slice p n c,.int .i64 next]] w K:=by
 refine call81 _ _ _ _ _ _ _ _ ?_
 unfold F81
 simp only [J81_0]
 have hn:=hs.bytes
 have hh:=Hp.see hs (Hp.start w) (by simp)
 cases ho:opT code with
 | none =>
  repeat' first|(with_reducible first|refine kk_ ?_|refine nx hh ?_|refine allW fun w' hh=>?_|exact sd_)|((with_reducible refine f36 h0 h1 fun cd s imm inn out gas e w' hb hr=>?_);(replace hh:=hh.bl hb);(rw [ho] at hr);(simp only [ho,Option.isSome_some,Option.isSome_none,Bool.not_true,Bool.not_false]))|((with_reducible refine f83 (hh.sees SeeIn.pos) fun w' hb=>?_);replace hh:=hh.bl hb)|(with_reducible first|refine zco ?_|refine zcj ?_|refine ifBt ?_|refine ifBf ?_|refine ifD (fun hc=>?_) (fun hc=>?_)|refine ifE (fun hd=>?_) (fun hd=>?_)|refine ifBb (fun hq=>?_) (fun hq=>?_)|refine And.intro ?_ ?_|exact vr)|fail
  have kk:=k _ hh.done
  rw [show zcu at_ code l next=false by simp [zcu,ho]] at kk
  exact kk
 | some r =>
  repeat' first|(with_reducible first|refine kk_ ?_|refine nx hh ?_|refine allW fun w' hh=>?_|exact sd_)|((with_reducible refine f36 h0 h1 fun cd s imm inn out gas e w' hb hr=>?_);(replace hh:=hh.bl hb);(rw [ho] at hr);(simp only [ho,Option.isSome_some,Option.isSome_none,Bool.not_true,Bool.not_false]))|((with_reducible refine f83 (hh.sees SeeIn.pos) fun w' hb=>?_);replace hh:=hh.bl hb)|(with_reducible first|refine zco ?_|refine zcj ?_|refine ifBt ?_|refine ifBf ?_|refine ifD (fun hc=>?_) (fun hc=>?_)|refine ifE (fun hd=>?_) (fun hd=>?_)|refine ifBb (fun hq=>?_) (fun hq=>?_)|refine And.intro ?_ ?_|exact vr)|fail
  all_goals
   have kk:=k _ hh.done
   obtain ⟨_,_,rfl,_⟩:=hr
   have es:zcu at_ code l next=(decide (0≤at_) && decide (at_≤1048576) && (lenT r.imm l).2 && decide ((lenT r.imm l).1=(l.length:Int)) && decide (next=at_+1+(lenT r.imm l).1)):=by simp only [zcu,ho]
   rw [es] at kk
  ·rw [show decide (0≤at_)=false from decide_eq_false (by omega)] at kk;simpa using kk
  ·rw [show decide (at_≤1048576)=false from decide_eq_false (by omega)] at kk;simpa using kk
  ·have e1:IntKind.wrap .i64 (at_+1)=at_+1:=i64w (by omega) (by omega)
   have e2:IntKind.wrap .i64 (at_+1+(lenT r.imm l).1)=at_+1+(lenT r.imm l).1:=i64w (by omega) (by omega)
   rw [e1,e2]
   rw [decide_eq_true (show 0≤at_ by omega),decide_eq_true (show at_≤1048576 by omega),hq,decide_eq_true (show (lenT r.imm l).1=(l.length:Int) by omega)] at kk
   rw [show (next == at_+1+(lenT r.imm l).1)=decide (next=at_+1+(lenT r.imm l).1) from by by_cases hx:next=at_+1+(lenT r.imm l).1 <;> simp [hx]]
   simpa using kk
  ·rw [decide_eq_false (show ¬ (lenT r.imm l).1=(l.length:Int) by omega)] at kk;simpa using kk
  ·rw [hq] at kk;simpa using kk
end Go.Proofs.YtlfhngoeecjfpaaGreatDoor.B
namespace Go.Proofs.YtlfhngoeecjfpaaGreatDoor.Sh
open Go Go.RowKit
theorem madeRep (z:Value) (n:Nat):madeCells #[z] n=(List.replicate n z).toArray:=by
 unfold madeCells
 apply Array.ext
 ·simp
 ·intro i h1 h2
  have hm:i % 1=0:=Nat.mod_one i
  simp [hm]
section
variable {P:Program} {Z:Nat→Prop} {w0 w:World} {L M:List Ent}
theorem makeN {t e by' n:Nat} {z:Value} {k1 k2:IntKind} {F:Value→World→Prop} (h:Hp Z w0 w L) (ht:P.underlying t=some (.slice e)) (hi:(P.info? e).map (fun i=>(i.zero,i.size,i.bytes))=some (some z,1,by')) (hz:z.cells=#[z]) (hn:n≤1073741824) (hb:by'≤65536)
  (kk:∀ w',Hp Z w0 w' (.own w.heap.size (List.replicate n z).toArray e::L)→Bl w w'→F (.slice (some ⟨w.heap.size,0,none⟩) n n) w') :
  semK P (Instr.makeSlice t (.int k1 (n:Int)) (.int k2 (n:Int))) w F:=by
 obtain ⟨i,hi',hzz⟩:=Option.map_eq_some_iff.1 hi
 simp only [Prod.mk.injEq] at hzz
 obtain ⟨hz0,hs,hbb⟩:=hzz
 have hm:maxLen=9223372036854775807:=rfl
 have hbn:i.bytes * n≤65536 * 1073741824:=Nat.mul_le_mul (by omega) hn
 have hb1:(i.bytes:Int) * (n:Int)≤281474976710656:=by
  have h:((i.bytes * n:Nat):Int)≤281474976710656:=by omega
  rwa [Int.natCast_mul] at h
 have hr:=run_make (P:=P) w t e i z ht hi' hz0 k1 k2 n n (by omega) (by omega) hb1 (by omega)
 simp only [Int.toNat_natCast,hs,Nat.mul_one,hz,madeRep] at hr
 exact zcd hr (kk _ (h.add ((Bl.refl w).alloc _) (Own.new w _ e) fun i hi=>Nat.le_of_eq hi.symm) ((Bl.refl w).alloc _))
theorem copyN {dT sT ty e:TypeId} {b n c m d:Nat} {cur:Array Value} {t:TypeId} {p:Option Addr} {xs:List Value} {F:Value→World→Prop} (h:Hp Z w0 w L)
  (hm:Pos L (.own b cur t) (.own b (xs.take n++cur.toList.drop (min m n)).toArray t) M) (hsee:Sees w 1 p m d xs) (ht:P.underlying dT=some (.slice e)) (hz:(P.info? e).map (·.size)=some 1)
  (hcur:n≤cur.size) (h1:∀ v∈xs,v.oneCell'=true)
  (kk:∀ w',Hp Z w0 w' M→Ext (· = b) w w'→F (.int .i64 ((min m n:Nat):Int)) w') :
  semK P (Builtin.copy_ #[dT,sT] ty #[.slice (some ⟨b,0,none⟩) n c,.slice p m d]) w F:=by
 have hown:Own w b cur t:=h.all _ hm.mem
 have hlen:=hsee.len
 rw [Nat.mul_one] at hlen
 have hg:∀ k:Nat,goInt k = .int .i64 (k:Int):=fun k=>rfl
 by_cases h0:min m n=0
 ·have hr:=run_copy_none (P:=P) w dT sT ty e (some ⟨b,0,none⟩) p n c m d ht hz h0
  have hx:xs.take n++cur.toList.drop (min m n)=cur.toList:=by
   rw [h0,List.drop_zero]
   have:xs.take n=[]:=List.length_eq_zero_iff.1 (by rw [List.length_take];omega)
   rw [this];rfl
  rw [hx] at hm
  refine zcd hr ?_
  show F (.int .i64 0) w
  have:=kk w (h.turn hm (Ext.refl w) (by show Own w b cur.toList.toArray t;simpa using hown) fun i hi=>.inl hi) (Ext.refl w)
  rw [h0] at this
  exact this
 ·obtain ⟨a,ha,_⟩:=hsee.addr (by omega) (by omega)
  subst ha
  have hl2:(xs.take n).length=min m n:=by rw [List.length_take,hlen];omega
  have hr:=run_copy_row (P:=P) w dT sT ty e b 0 n c a m d cur t (xs.take n) ht hz hown (by rw [hl2])
   (fun j v hj=>hsee.get rfl (by rw [List.getElem?_take] at hj;split at hj <;> first|exact hj|cases hj)) (by rw [hl2];omega) (fun v hv=>h1 v (List.mem_of_mem_take hv))
  simp only [List.take_zero,List.nil_append,Nat.zero_add,hl2] at hr
  refine zcd hr ?_
  rw [hg]
  have hown':Own (w.setRow b (xs.take n++cur.toList.drop (min m n)).toArray) b (xs.take n++cur.toList.drop (min m n)).toArray t:=by
   unfold Own at hown ⊢
   simp only [World.setRow,Array.getElem?_modify,if_true,hown]
   rfl
  have hext:Ext (· = b) w (w.setRow b (xs.take n++cur.toList.drop (min m n)).toArray) :=
   ⟨rfl,rfl,rfl,by simp [World.setRow],fun k hk hb=>by
    simp only [World.setRow,Array.getElem?_modify]
    rw [if_neg fun e=>hb e.symm]⟩
  exact kk _ (h.turn hm hext hown' fun i hi=>.inl hi) hext
theorem Own.sees {w:World} {b n:Nat} {cs:List Value} {t:TypeId} (h:Own w b cs.toArray t) (hn:cs.length=n):Sees w 1 (some ⟨b,0,none⟩) n n cs :=
 ⟨by omega,Nat.le_refl _,fun j u hj=>⟨_,rfl,by rw [addG,h.cell];simpa using hj⟩⟩
theorem u8s_one (l:List UInt8):∀ v∈u8s l,v.oneCell'=true:=by
 intro v hv
 simp only [u8s,List.mem_map] at hv
 obtain ⟨b,_,rfl⟩:=hv
 rfl
theorem u8s_take (l:List UInt8) (n:Nat):(u8s l).take n=u8s (l.take n):=by simp [u8s,List.map_take]
theorem u8s_drop (l:List UInt8) (n:Nat):(u8s l).drop n=u8s (l.drop n):=by simp [u8s,List.map_drop]
class RowIn (L:List Ent) (p:Option Addr) (n c:Nat) (z:outParam Nat) (e:outParam TypeId) (xs:outParam (List Value)) (M:outParam (Ent→List Ent)):Prop where
 pos:∀ y,Pos L (.row z p n c e xs) y (M y)
instance (priority:=high) rowHere {L:List Ent} {p:Option Addr} {n c z:Nat} {e:TypeId} {xs:List Value}:RowIn (.row z p n c e xs::L) p n c z e xs (fun y=>y::L):=⟨fun _=>.here⟩
instance (priority:=low) rowThere {L:List Ent} {x:Ent} {p:Option Addr} {n c z:Nat} {e:TypeId} {xs:List Value} {M:Ent→List Ent} [h:RowIn L p n c z e xs M]:RowIn (x::L) p n c z e xs (fun y=>x::M y):=⟨fun y=>.there (h.pos y)⟩
theorem appH {t e ty b n c m d z by':Nat} {zv:Value} {p:Option Addr} {xs:List Value} {cs:Array Value} {t':TypeId} {N:Ent→List Ent} {F:Value→World→Prop} (h:Hp Z w0 w L) [hr:RowIn L p n c z e xs N] [hg:GetOwn L b cs t']
  (ht:P.underlying t=some (.slice e)) (hi:(P.info? e).map (fun i=>(i.zero,i.size,i.bytes))=some (some zv,z,by')) (hzv:zv.cells.size=z) (hz0:Nat.ble 1 z=true) (hcs:cs.size=m * z) (h1:onesB cs.toList=true) (hm:Nat.ble 1 m=true) (hn:n+m≤1073741824) (hb:Nat.ble by' 65536=true)
  (kk:∀ g cap w',Hp Z w0 w' (N (.row z (some ⟨g,0,none⟩) (n+m) cap e (xs++cs.toList)))→F (.slice (some ⟨g,0,none⟩) (n+m) cap) w') :
  semK P (Builtin.append_ #[t,t] ty #[.slice p n c,.slice (some ⟨b,0,none⟩) m d]) w F:=by
 rw [Nat.ble_eq] at hz0 hm hb
 have hrow:RowZ w z (.slice p n c) e n xs:=h.all _ (hr.pos (.row z p n c e xs)).mem
 have hown:Own w b cs t':=h.all _ hg.pos.mem
 refine appZ (news:=cs.toList) hrow hz0 ht hi hzv (by simpa using hcs) (fun j u hj=>by rw [addG,hown.cell];simpa using hj) (onesB_all _ h1) hm hn hb fun g cap w' h2 he hor hlt=>?_
 refine kk g cap w' (h.turn (hr.pos _) he h2 fun i hi=>?_)
 have hi:i=g:=by
  have hi:Blk (.slice (some ⟨g,0,none⟩) (n+m) cap) i:=hi
  unfold Blk at hi
  simp [Value.ownBlock] at hi
  exact hi.symm
 subst hi
 rcases hor with h3|h3
 ·exact .inl h3
 ·exact .inr (by omega)
theorem Hp.rowNil (h:Hp Z w0 w L) (z:Nat) (e:TypeId):Hp Z w0 w (.row z none 0 0 e []::L) :=
 h.add (Bl.refl w) (RowZ.nil w z e) fun i hi=>by
  have hi:Blk (.slice none 0 0) i:=hi
  unfold Blk at hi
  simp [Value.ownBlock] at hi
theorem Pos.less {x y:Ent} (h:Pos L x y M) (hp:L.Pairwise Apart) (hm:∀ k,y.mine k→x.mine k) (hf:∀ k,y.foot k→x.foot k):M.Pairwise Apart∧∀ z∈M,z=y∨z∈L:=by
 have key:∀ z,Apart x z→Apart y z:=fun z ha k=>⟨fun m=>(ha k).1 (hm k m),fun f=>(ha k).2 (hf k f)⟩
 refine ⟨?_,h.cases'⟩
 induction h with
 | @here L x y =>
  rw [List.pairwise_cons] at hp
  exact List.pairwise_cons.2 ⟨fun z hz=>key z (hp.1 z hz),hp.2⟩
 | @there L M x y z h ih =>
  rw [List.pairwise_cons] at hp
  refine List.pairwise_cons.2 ⟨fun u hu=>?_,ih hp.2 hm hf key⟩
  rcases h.cases' u hu with h1|h1
  ·subst h1;exact (key z (hp.1 x h.mem).symm).symm
  ·exact hp.1 u h1
theorem Hp.less {x y:Ent} (h:Hp Z w0 w L) (hp:Pos L x y M) (hy:y.at_ w) (hm:∀ k,y.mine k→x.mine k) (hf:∀ k,y.foot k→x.foot k):Hp Z w0 w M:=by
 obtain ⟨p1,p2⟩:=hp.less h.apart hm hf
 refine ⟨h.ext,fun z hz=>?_,p1,fun z hz k hk=>?_⟩
 ·rcases p2 z hz with h1|h1
  ·subst h1;exact hy
  ·exact h.all z h1
 ·rcases p2 z hz with h1|h1
  ·subst h1;exact h.may x hp.mem k (hm k hk)
  ·exact h.may z h1 k hk
theorem Hp.dropSee {z n c x:Nat} {p:Option Addr} {xs:List Value} (h:Hp Z w0 w (.see z p n c xs::L)) (hx:x≤n):Hp Z w0 w (.see z (if c=x then p else p.map (·.add (x * z))) (n - x) (c - x) (xs.drop (x * z))::L):=by
 have hs:Sees w z p n c xs:=h.all _ List.mem_cons_self
 refine h.less (.here) (hs.drop hx) (fun k hk=>hk) fun k hk=>?_
 obtain ⟨h0,a,ha,rfl⟩:=hk
 have hl:0 < xs.length:=by rw [List.length_drop] at h0;omega
 split at ha
 ·exact ⟨hl,a,ha,rfl⟩
 ·cases p with
  | none=>cases ha
  | some b=>simp at ha;subst ha;exact ⟨hl,b,rfl,blockAdd b _⟩
end
end Go.Proofs.YtlfhngoeecjfpaaGreatDoor.Sh
namespace Go.Proofs.YtlfhngoeecjfpaaGreatDoor.B
open Go Go.RowKit Go.Proofs.YtlfhngoeecjfpaaGreatDoor.Sh Go.Proofs.YtlfhngoeecjfpaaGreatDoor.W
structure Ins where
 at_:Int
 code:Int
 imm:List UInt8
 next:Int
def zcl (b:List UInt8) (at_:Int):Except Int Ins :=
 if at_ < 0 then .error 1 else if at_ ≥ b.length then .error 1 else
 match opT ((b.getD at_.toNat 0).toNat:Int) with
 | none=>.error 60
 | some r =>
  if (lenT r.imm (b.drop (at_.toNat+1))).2=false then .error 61 else
  if (lenT r.imm (b.drop (at_.toNat+1))).1 > (b.length:Int) - at_ - 1 then .error 61 else
  .ok ⟨at_,((b.getD at_.toNat 0).toNat:Int),(b.drop (at_.toNat+1)).take (lenT r.imm (b.drop (at_.toNat+1))).1.toNat,at_+1+(lenT r.imm (b.drop (at_.toNat+1))).1⟩
def errV (e:Int):Value:=.tuple #[.agg #[.int .i64 0,.int .i64 0,.slice none 0 0,.int .i64 0],.int .i64 e]
theorem lenT_nonneg {r:OpR} {c:Int} {l:List UInt8} (h:opT c=some r) (hi : -1≤r.imm):(lenT r.imm l).2=true→0≤(lenT r.imm l).1:=by
 unfold lenT
 split
 ·split <;> simp
  omega
 ·intro _;show 0≤r.imm;omega
theorem opT_key:∀ i:Fin 256,(match opT ((i.val:Nat):Int) with|some r=>decide (-1≤r.imm∧r.imm≤32)|none=>true)=true:=by decide +kernel
theorem opT_imm {b:UInt8} {r:OpR} (h:opT (b.toNat:Int)=some r) : -1≤r.imm∧r.imm≤32:=by
 have:=opT_key ⟨b.toNat,b.toNat_lt⟩
 simp only [h] at this
 exact of_decide_eq_true this
theorem f39 {at_:Int} {p:Option Addr} {n c:Nat} {l:List UInt8} {w:World} {K:Value→World→Prop} (hs:Sees w 1 p n c (u8s l)) (hln:l.length≤1073741824)
  (ke:∀ e,zcl l at_ = .error e→∀ w',Bl w w'→K (errV e) w')
  (ko:∀ i,zcl l at_ = .ok i→∀ b m w',Bl w w'→w.heap.size≤b→m=i.imm.length→Sees w' 1 (some ⟨b,0,none⟩) m m (u8s i.imm)→K (.tuple #[.agg #[.int .i64 i.at_,.int .i64 i.code,.slice (some ⟨b,0,none⟩) m m,.int .i64 i.next],.int .i64 0]) w') :
  zaj Tryz.prog 39 #[.slice p n c,.int .i64 at_] w K:=by
 refine call39 _ _ _ _ _ _ ?_
 unfold F39
 have hn:=hs.bytes
 have hle:=hs.le
 have hh:=Hp.see hs (Hp.start w) (by simp)
 repeat' first|(with_reducible first|refine kk_ ?_|refine nx hh ?_|refine allW fun w' hh=>?_|exact sd_|refine ifD (fun hc=>?_) (fun hc=>?_)|refine And.intro ?_ ?_|exact vr)|fail
 ·exact ke 1 (by simp [zcl,hc]) _ hh.done
 ·exact ke 1 (by rw [zcl,if_neg ‹_›,if_pos (by omega)]) _ hh.done
 rename_i hc0 _
 unfold J39_0
 refine rdB hh (by with_unfolding_all rfl) (by with_unfolding_all rfl) (by omega) (by omega) (fun b hb=>?_)
 have hbl:=b.toNat_lt
 have hget:l.getD at_.toNat 0=b:=by simp [hb]
 have e1:IntKind.wrap .i64 (b.toNat:Int)=b.toNat:=i64w (by omega) (by omega)
 rw [e1]
 have hR:zcl l at_=(match opT (b.toNat:Int) with
   | none=>.error 60
   | some r =>
    if (lenT r.imm (l.drop (at_.toNat+1))).2=false then .error 61 else
    if (lenT r.imm (l.drop (at_.toNat+1))).1 > (l.length:Int) - at_ - 1 then .error 61 else
    .ok ⟨at_,(b.toNat:Int),(l.drop (at_.toNat+1)).take (lenT r.imm (l.drop (at_.toNat+1))).1.toNat,at_+1+(lenT r.imm (l.drop (at_.toNat+1))).1⟩):=by
  rw [zcl,if_neg (by omega),if_neg (by omega),hget]
 cases ho:opT (b.toNat:Int) with
 | none =>
  rw [ho] at hR
  repeat' first|(with_reducible first|refine kk_ ?_|refine nx hh ?_|refine allW fun w' hh=>?_|exact sd_)|((with_reducible refine f36 (by omega) (by omega) fun cd s imm inn out gas e w' hb hr=>?_);(replace hh:=hh.bl hb);(rw [ho] at hr);(simp only [ho,Option.isSome_some,Option.isSome_none,Bool.not_true,Bool.not_false]))|(with_reducible first|refine zco ?_|refine zcj ?_|refine ifBt ?_|refine ifBf ?_|refine And.intro ?_ ?_|exact vr)|fail
  exact ke 60 hR _ hh.done
 | some r =>
  rw [ho] at hR
  simp only at hR
  have e2:IntKind.wrap .i64 (at_+1)=at_+1:=i64w (by omega) (by omega)
  have e3:(at_+1).toNat=at_.toNat+1:=by omega
  first|rw [e2]|(dsimp only;rw [e2])
  repeat' first|(with_reducible first|refine kk_ ?_|refine nx hh ?_|refine allW fun w' hh=>?_|exact sd_)|((with_reducible refine f36 (by omega) (by omega) fun cd s imm inn out gas e w' hb hr=>?_);(replace hh:=hh.bl hb);(rw [ho] at hr);(simp only [ho,Option.isSome_some,Option.isSome_none,Bool.not_true,Bool.not_false]))|(with_reducible first|refine zco ?_|refine zcj ?_|refine ifBt ?_|refine ifBf ?_|refine And.intro ?_ ?_|exact vr)|fail
  obtain ⟨rfl,_,rfl,_⟩:=hr
  refine dropZ (z:=1) (by with_unfolding_all rfl) (by with_unfolding_all rfl) (by omega) (by omega) (by omega) ?_
  have hd:=(hh.sees SeeIn.pos (p:=p) (n:=n) (c:=c)).drop (x:=at_.toNat+1) (by omega)
  rw [Nat.mul_one,u8s_drop] at hd
  first|rw [e3]|(dsimp only;rw [e3])
  simp only [Nat.mul_one]
  refine kL ?_
  refine f83 hd fun w9 hb1=>?_
  replace hh:=hh.bl hb1
  have hsz:=hh.ext.size
  have hnn:=lenT_nonneg (l:=l.drop (at_.toNat+1)) ho (opT_imm ho).1
  repeat' first|(with_reducible first|refine kk_ ?_|refine nx hh ?_|refine allW fun w' hh=>?_|exact sd_|refine ifD (fun hc=>?_) (fun hc=>?_)|refine ifBb (fun hq=>?_) (fun hq=>?_)|refine And.intro ?_ ?_|exact vr)|fail
  ·have hq':(lenT r.imm (l.drop (at_.toNat+1))).2=false:=by simpa using hq
   rw [if_pos hq'] at hR
   exact ke 61 hR _ hh.done
  ·have hq':(lenT r.imm (l.drop (at_.toNat+1))).2=true:=by simpa using hq
   have e4:IntKind.wrap .i64 ((n:Int) - at_)=(n:Int) - at_:=i64w (by omega) (by omega)
   have e5:IntKind.wrap .i64 ((n:Int) - at_ - 1)=(n:Int) - at_ - 1:=i64w (by omega) (by omega)
   rw [e4,e5] at hc
   rw [if_neg (by rw [hq'];decide),if_pos (by omega)] at hR
   exact ke 61 hR _ hh.done
  ·have hq':(lenT r.imm (l.drop (at_.toNat+1))).2=true:=by simpa using hq
   have e4:IntKind.wrap .i64 ((n:Int) - at_)=(n:Int) - at_:=i64w (by omega) (by omega)
   have e5:IntKind.wrap .i64 ((n:Int) - at_ - 1)=(n:Int) - at_ - 1:=i64w (by omega) (by omega)
   rw [e4,e5] at hc
   rw [if_neg (by rw [hq'];decide),if_neg (by omega)] at hR
   have h0:=hnn hq'
   generalize hN:(lenT r.imm (l.drop (at_.toNat+1))).1=N at *
   obtain ⟨N',rfl⟩:=Int.eq_ofNat_of_zero_le h0
   unfold J39_1
   rw [e2]
   refine makeN (n:=N') (z:=.int .u8 0) hh (by with_unfolding_all rfl) (by with_unfolding_all rfl) (by with_unfolding_all rfl) (by omega) (by decide) fun w3 hh _=>?_
   refine kL ?_
   refine dropZ (z:=1) (by with_unfolding_all rfl) (by with_unfolding_all rfl) (by omega) (by omega) (by omega) ?_
   have hd2:=(hh.sees SeeIn.pos (p:=p) (n:=n) (c:=c)).drop (x:=at_.toNat+1) (by omega)
   rw [Nat.mul_one,u8s_drop] at hd2
   rw [e3]
   simp only [Nat.mul_one]
   refine kL ?_
   refine copyN hh (SetOwn.pos) hd2 (by with_unfolding_all rfl) (by with_unfolding_all rfl) (by simp) (u8s_one _) fun w4 hh _=>?_
   have hlen3:min (n - (at_.toNat+1)) N'=N':=by omega
   have hlen4:((l.drop (at_.toNat+1)).take N').length=N':=by rw [List.length_take,List.length_drop];omega
   have hcell:(u8s (l.drop (at_.toNat+1))).take N'++((List.replicate N' (Value.int .u8 0)).toArray).toList.drop (min (n - (at_.toNat+1)) N')=u8s ((l.drop (at_.toNat+1)).take N'):=by
    rw [hlen3,u8s_take];simp
   rw [hcell] at hh
   with_reducible repeat' first|refine kk_ ?_|refine nx hh ?_|refine allW fun w' hh=>?_|exact sd_|refine ai ?_ ?_|exact vr|fail
   have e6:IntKind.wrap .i64 (at_+1+(N':Int))=at_+1+N':=i64w (by omega) (by omega)
   have hown:=hh.all _ (GetOwn.pos (b:=w9.heap.size)).mem
   first|rw [e6]|(dsimp only;rw [e6])
   exact ko _ hR _ _ _ hh.done hsz hlen4.symm (Own.sees hown (by rw [u8s_len];exact hlen4))
theorem Hp.addSee {Z:Nat→Prop} {w0 w w':World} {L:List Ent} {b m:Nat} {xs:List Value} (h:Hp Z w0 w L) (k:Bl w w') (hb:w.heap.size≤b) (hs:Sees w' 1 (some ⟨b,0,none⟩) m m xs):Hp Z w0 w' (.see 1 (some ⟨b,0,none⟩) m m xs::L) :=
 h.add k hs fun i hi=>by obtain ⟨_,a,ha,rfl⟩:=hi;cases ha;exact hb
def zae (i:Ins):Int × Bool :=
 if zcu i.at_ i.code i.imm i.next=true then
  if i.code=227∨i.code=229∨i.code=209 then (pairT i.imm,true) else
  if i.code=236∨i.code=238 then (((i.imm.getD 0 0).toNat:Int),true) else (0,false)
 else (0,false)
theorem stands_len {a c nx:Int} {l:List UInt8} {r:OpR} (h:zcu a c l nx=true) (ho:opT c=some r) (hi:r.imm≠-1):(l.length:Int)=r.imm:=by
 simp only [zcu,ho,Bool.and_eq_true,decide_eq_true_eq] at h
 have h1:=h.1.2
 rw [← h1]
 simp [lenT,hi]
theorem f37 {i : Ins} {p : Option Addr} {n c : Nat} {w : World} {K : Value → World → Prop} (h0 : 0 ≤ i.code) (h1 : i.code < 256) (hs : Sees w 1 p n c (u8s i.imm)) (hln : i.imm.length ≤ 1073741824)
    (k : ∀ w', Bl w w' → K (.tuple #[.int .i64 (zae i).1, .bool (zae i).2]) w') : zaj Tryz.prog 37 #[.agg #[.int .i64 i.at_, .int .i64 i.code, .slice p n c, .int .i64 i.next]] w K := by
  refine call37 _ _ _ _ _ _ _ _ ?_
  unfold F37
  simp only [J37_0, J37_1]
  have hn := hs.bytes
  have hh := Hp.see hs (Hp.start w) (by simp)
  have two : ∀ r, opT i.code = some r → r.imm = 2 → zcu i.at_ i.code i.imm i.next = true → 2 ≤ n := fun r ho hr hst => by
    have := stands_len hst ho (by omega); omega
  have one : ∀ r, opT i.code = some r → r.imm = 1 → zcu i.at_ i.code i.imm i.next = true → 1 ≤ n := fun r ho hr hst => by
    have := stands_len hst ho (by omega); omega
  cases hst : zcu i.at_ i.code i.imm i.next with
  | false =>
    repeat' first | (with_reducible first | refine kk_ ?_ | refine nx hh ?_ | refine allW fun w' hh => ?_ | exact sd_) | ((with_reducible refine f81 h0 h1 (hh.sees (SeeIn.pos (p := p) (n := n) (c := c))) hln fun w' hb => ?_); (replace hh := hh.bl hb); (simp only [hst])) | (with_reducible first | refine zco ?_ | refine zcj ?_ | refine And.intro ?_ ?_ | exact vr) | fail
    have kk := k _ hh.done
    rw [show zae i = (0, false) by simp [zae, hst]] at kk
    exact kk
  | true =>
    repeat' first | (with_reducible first | refine kk_ ?_ | refine nx hh ?_ | refine allW fun w' hh => ?_ | exact sd_) | ((with_reducible refine f81 h0 h1 (hh.sees (SeeIn.pos (p := p) (n := n) (c := c))) hln fun w' hb => ?_); (replace hh := hh.bl hb); (simp only [hst])) | (with_reducible first | refine zco ?_ | refine zcj ?_ | refine ifE (fun hc => ?_) (fun hc => ?_)) | ((with_reducible refine f82 (hh.sees (SeeIn.pos (p := p) (n := n) (c := c))) (by with_unfolding_all exact two _ (by rw [hc]; rfl) rfl hst) fun w' hb => ?_); (replace hh := hh.bl hb)) | (with_reducible first | refine rdB hh (by with_unfolding_all rfl) (by with_unfolding_all rfl) ?_ ?_ (fun b hb => ?_) | refine And.intro ?_ ?_ | exact vr) | fail
    all_goals first
      | omega
      | exact two _ (by rw [hc]; rfl) rfl hst
      | (have := one _ (by rw [hc]; rfl) rfl hst; omega)
      | (have kk := k _ hh.done; rw [zae, if_pos hst, if_neg (by omega), if_neg (by omega)] at kk; exact kk)
      | (have kk := k _ hh.done; rw [zae, if_pos hst, if_pos (by omega)] at kk; exact kk)
      | (have kk := k _ hh.done
         have hbl := b.toNat_lt
         rw [zae, if_pos hst, if_neg (by omega), if_pos (by omega), show i.imm.getD 0 0 = b by (rw [List.getD_eq_getElem?_getD]; rw [show i.imm[0]? = some b from hb]; rfl)] at kk
         rw [i64w (by omega) (by omega)]
         exact kk)
def ints (l:List Int):List Value:=l.map fun x=>.int .i64 x
def pairsT (next:Int):List UInt8→List Int
 | a::b::l=>IntKind.wrap .i64 (next+IntKind.wrap .i64 (IntKind.wrap .i16 (pairT [a,b])))::pairsT next l
 | _=>[]
theorem pairT_cons (a b:UInt8) (l:List UInt8):pairT (a::b::l)=pairT [a,b]:=rfl
theorem hpTail {Z:Nat→Prop} {w0 w:World} {x:Ent} {L:List Ent} (h:Hp Z w0 w (x::L)):Hp Z w0 w L :=
 ⟨h.ext,fun y hy=>h.all y (List.mem_cons_of_mem _ hy),(List.pairwise_cons.1 h.apart).2,fun y hy=>h.may y (List.mem_cons_of_mem _ hy)⟩
theorem l40 {n0x a0 a1:Int} {x:Nat} {v2:Value} {w0:World} {K:Value→World→Prop}:∀ (k:Nat) (l:List UInt8) (acc:List Int) (p3:Option Addr) (n3 c3:Nat) (p4:Option Addr) (n4 c4:Nat) (w:World),l.length=2 * k→acc.length+k≤100000 →
  Hp zan w0 w [.see 1 p4 n4 c4 (u8s l),.row 1 p3 n3 c3 3 (ints acc),.own x #[.int .i64 a0,.int .i64 a1,v2,.int .i64 n0x] 70] →
  (∀ p n c w',Bl w0 w'→RowZ w' 1 (.slice p n c) 3 n (ints (acc++pairsT n0x l))→(∀ g,Blk (.slice p n c) g→w0.heap.size≤g)→K (.slice p n c) w')→L40_1 K (k+1) ⟨x,0,none⟩ p3 n3 c3 p4 n4 c4 w
 | 0,l,acc,p3,n3,c3,p4,n4,c4,w,hl,ha,hh,kk=>by
  have hs:=hh.sees (SeeIn.pos (p:=p4) (n:=n4) (c:=c4))
  have hn:=hs.bytes
  have hrow:RowZ w 1 (.slice p3 n3 c3) 3 n3 (ints acc):=hh.all (.row 1 p3 n3 c3 3 (ints acc)) (List.mem_cons_of_mem _ List.mem_cons_self)
  unfold L40_1
  refine ifD (fun hc=>by omega) (fun hc=>?_)
  have h0:l=[]:=List.length_eq_zero_iff.1 (by omega)
  subst h0
  refine kk _ _ _ _ hh.done ?_ ?_
  ·simpa [pairsT] using hrow
  ·intro g hg
   rcases hh.may (.row 1 p3 n3 c3 3 (ints acc)) (List.mem_cons_of_mem _ List.mem_cons_self) g hg with h|h
   ·exact h.elim
   ·exact h
 | k+1,l,acc,p3,n3,c3,p4,n4,c4,w,hl,ha,hh,kk=>by
  have hs:=hh.sees (SeeIn.pos (p:=p4) (n:=n4) (c:=c4))
  have hn:=hs.bytes
  have hle:=hs.le
  have hrow:RowZ w 1 (.slice p3 n3 c3) 3 n3 (ints acc):=hh.all (.row 1 p3 n3 c3 3 (ints acc)) (List.mem_cons_of_mem _ List.mem_cons_self)
  have hrl:acc.length=n3:=by have:=hrow.len;simpa [ints] using this
  match l,hl with
  | a::b::l',hl =>
   unfold L40_1
   refine ifD (fun hc=>?_) (fun hc=>by omega)
   repeat' first|(with_reducible first|refine kk_ ?_|refine nx hh ?_|refine allW fun w' hh=>?_|exact sd_)|((with_reducible refine f82 (hh.sees (SeeIn.pos (p:=p4) (n:=n4) (c:=c4))) (by simp at hl hn;omega) fun w' hb=>?_);(replace hh:=hh.bl hb))|(with_reducible first|refine And.intro ?_ ?_|exact vr)|fail
   refine appH hh (by with_unfolding_all rfl) (by with_unfolding_all rfl) (by with_unfolding_all rfl) (by with_unfolding_all rfl) (by with_unfolding_all rfl) (by with_unfolding_all rfl) (by with_unfolding_all rfl) (by omega) (by with_unfolding_all rfl) fun g cap w4 hh=>?_
   refine kL ?_
   refine dropZ (z:=1) (by with_unfolding_all rfl) (by with_unfolding_all rfl) (by decide) (by simp at hl hn;omega) hle ?_
   refine kL ?_
   replace hh:=hpTail hh
   replace hh:=hh.dropSee (x:=2) (by simp at hl hn;omega)
   have e1:(u8s (a::b::l')).drop (2 * 1)=u8s l':=rfl
   rw [e1] at hh
   have e2:ints acc++[Value.int .i64 (IntKind.wrap .i64 (n0x+IntKind.wrap .i64 (IntKind.wrap .i16 (pairT (a::b::l')))))]=ints (acc++[IntKind.wrap .i64 (n0x+IntKind.wrap .i64 (IntKind.wrap .i16 (pairT [a,b])))]):=by
    simp [ints,pairT_cons]
   refine l40 k l' (acc++[IntKind.wrap .i64 (n0x+IntKind.wrap .i64 (IntKind.wrap .i16 (pairT [a,b])))]) _ _ _ _ _ _ _ (by simp at hl;omega) (by simp;omega) (by rw [← e2];exact hh) ?_
   intro p n c w' hb hr hg
   refine kk p n c w' hb ?_ hg
   have e3:acc++[IntKind.wrap .i64 (n0x+IntKind.wrap .i64 (IntKind.wrap .i16 (pairT [a,b])))]++pairsT n0x l'=acc++pairsT n0x (a::b::l'):=by simp [pairsT]
   rw [← e3];exact hr
theorem hpSwap {Z:Nat→Prop} {w0 w:World} {x y:Ent} {L:List Ent} (h:Hp Z w0 w (x::y::L)):Hp Z w0 w (y::x::L):=by
 have hp:=h.apart
 rw [List.pairwise_cons,List.pairwise_cons] at hp
 have mem:∀ z,z∈y::x::L→z∈x::y::L:=fun z hz=>by
  simp only [List.mem_cons] at hz ⊢
  rcases hz with h|h|h
  ·exact .inr (.inl h)
  ·exact .inl h
  ·exact .inr (.inr h)
 refine ⟨h.ext,fun z hz=>h.all z (mem z hz),List.pairwise_cons.2 ⟨fun z hz=>?_,List.pairwise_cons.2 ⟨fun z hz=>hp.1 z (List.mem_cons_of_mem _ hz),hp.2.2⟩⟩,fun z hz=>h.may z (mem z hz)⟩
 rcases List.mem_cons.1 hz with h1|h1
 ·subst h1;exact (hp.1 y List.mem_cons_self).symm
 ·exact hp.2.1 z h1
def zas (i:Ins):List Int :=
 if zcu i.at_ i.code i.imm i.next=true then
  if i.code=226 then pairsT i.next (i.imm.drop 1) else
  if i.code=224∨i.code=225 then pairsT i.next i.imm else []
 else []
theorem stands_table {a c n0x:Int} {l:List UInt8} {r:OpR} (h:zcu a c l n0x=true) (ho:opT c=some r) (hi:r.imm = -1):∃ b l',l=b::l'∧l'.length=2 * (b.toNat+1):=by
 simp only [zcu,ho,Bool.and_eq_true,decide_eq_true_eq] at h
 have h1:=h.1.2
 have h2:=h.1.1.2
 unfold lenT at h1 h2
 rw [if_pos hi] at h1 h2
 cases l with
 | nil=>simp at h2
 | cons b l'=>exact ⟨b,l',rfl,by simp at h1;omega⟩
theorem f40 {i : Ins} {p : Option Addr} {n c : Nat} {w : World} {K : Value → World → Prop} (h0 : 0 ≤ i.code) (h1 : i.code < 256) (hs : Sees w 1 p n c (u8s i.imm)) (hln : i.imm.length ≤ 1073741824)
    (k : ∀ p' n' c' w', Bl w w' → RowZ w' 1 (.slice p' n' c') 3 n' (ints (zas i)) → (∀ g, Blk (.slice p' n' c') g → w.heap.size ≤ g) → K (.slice p' n' c') w') : zaj Tryz.prog 40 #[.agg #[.int .i64 i.at_, .int .i64 i.code, .slice p n c, .int .i64 i.next]] w K := by
  refine call40 _ _ _ _ _ _ _ _ ?_
  unfold F40
  simp only [J40_0]
  have hn := hs.bytes
  have hle := hs.le
  have hh := Hp.see hs (Hp.start w) (by simp)
  have nil : ∀ w', Bl w w' → zas i = [] → K (.slice none 0 0) w' := fun w' hb he => k _ _ _ _ hb (by rw [he]; exact RowZ.nil w' 1 3) fun g hg => by
    unfold Blk at hg; simp [Value.ownBlock] at hg
  cases hst : zcu i.at_ i.code i.imm i.next with
  | false =>
    repeat' first | (with_reducible first | refine kk_ ?_ | refine nx hh ?_ | refine allW fun w' hh => ?_ | exact sd_) | ((with_reducible refine f81 h0 h1 (hh.sees (SeeIn.pos (p := p) (n := n) (c := c))) hln fun w' hb => ?_); (replace hh := hh.bl hb); (simp only [hst])) | (with_reducible first | refine zco ?_ | refine zcj ?_ | refine And.intro ?_ ?_ | exact vr) | fail
    exact nil _ hh.done (by simp [zas, hst])
  | true =>
    repeat' first | (with_reducible first | refine kk_ ?_ | refine nx hh ?_ | refine allW fun w' hh => ?_ | exact sd_) | ((with_reducible refine f81 h0 h1 (hh.sees (SeeIn.pos (p := p) (n := n) (c := c))) hln fun w' hb => ?_); (replace hh := hh.bl hb); (simp only [hst])) | (with_reducible first | refine zco ?_ | refine zcj ?_ | refine ifE (fun hc => ?_) (fun hc => ?_) | refine And.intro ?_ ?_ | exact vr) | fail
    · obtain ⟨b, l', hl, hl2⟩ := stands_table hst (by rw [hc]; rfl) rfl
      have hbl := b.toNat_lt
      refine dropZ (z := 1) (by with_unfolding_all rfl) (by with_unfolding_all rfl) (by decide) (by rw [hl] at hn; simp at hn; omega) hle ?_
      refine kL ?_
      refine ⟨b.toNat + 2, ?_⟩
      replace hh := hpSwap (((hpSwap hh).dropSee (x := 1) (by rw [hl] at hn; simp at hn; omega)).rowNil 1 3)
      have e1 : (u8s i.imm).drop (1 * 1) = u8s l' := by rw [hl]; rfl
      rw [e1] at hh
      refine l40 (b.toNat + 1) l' [] _ _ _ _ _ _ _ hl2 (by simp; omega) hh fun p' n' c' w' hb hr hg => k _ _ _ _ hb ?_ hg
      rw [show zas i = [] ++ pairsT i.next l' by rw [zas, if_pos hst, if_pos hc, hl]; rfl]
      exact hr
    all_goals first
      | omega
      | exact nil _ hh.done (by rw [zas, if_pos hst, if_neg (by omega), if_neg (by omega)])
      | (have h2 := stands_len hst (by rw [hc]; rfl) (by decide)
         refine ⟨2, ?_⟩
         replace hh := hpSwap ((hpSwap hh).rowNil 1 3)
         refine l40 1 i.imm [] _ _ _ _ _ _ _ (by have h3 : ((i.imm.length : Nat) : Int) = 2 := h2
                                                 omega) (by simp) hh fun p' n' c' w' hb hr hg => k _ _ _ _ hb ?_ hg
         rw [show zas i = [] ++ pairsT i.next i.imm by rw [zas, if_pos hst, if_neg (by omega), if_pos (by omega)]; rfl]
         exact hr)
end Go.Proofs.YtlfhngoeecjfpaaGreatDoor.B
namespace Go.Proofs.YtlfhngoeecjfpaaGreatDoor.W
open Go Go.Proofs.YtlfhngoeecjfpaaGreatDoor.Sh
def F131 (a0:Bool) (a1:Int) (w:World) (R:KV):Prop :=
 ifB (decide ((a1:Int) ≥ 0)) (ifB (decide ((a1:Int)≤128)) (ifB (!a0) (R (.bool true) w) (R (.bool ((a1:Int) == 128)) w)) (R (.bool false) w)) (R (.bool false) w)
def A131 (R:KV):Ann:=.no
theorem sides131 (R:KV):zak PP Tryz.f131 (A131 R) R:=by
 trivial
theorem call131 (a0:Bool) (a1:Int) (w:World) (R:KV) (h:F131 a0 a1 w R):zaj PP 131 #[(.bool a0),(i6 a1)] w R :=
 zah (an:=A131 R) Tryz.func131 rfl (sides131 R) (Eq.mp (by kernel_rfl) h)

def F132 (a0:OA) (w:World) (R:KV):Prop :=
 optP a0 fun ad1=>R (.pointer (some (Addr.add ad1 1))) w
def A132 (R:KV):Ann:=.no
theorem sides132 (R:KV):zak PP Tryz.f132 (A132 R) R:=by
 trivial
theorem call132 (a0:OA) (w:World) (R:KV) (h:F132 a0 w R):zaj PP 132 #[(.pointer a0)] w R :=
 zah (an:=A132 R) Tryz.func132 rfl (sides132 R) (Eq.mp (by kernel_rfl) h)

def F133 (a0:Bool) (a1:Int) (w:World) (R:KV):Prop :=
 ifB (decide ((a1:Int) ≥ 0)) (R (.bool (decide ((a1:Int)≤1023))) w) (R (.bool false) w)
def A133 (R:KV):Ann:=.no
theorem sides133 (R:KV):zak PP Tryz.f133 (A133 R) R:=by
 trivial
theorem call133 (a0:Bool) (a1:Int) (w:World) (R:KV) (h:F133 a0 a1 w R):zaj PP 133 #[(.bool a0),(i6 a1)] w R :=
 zah (an:=A133 R) Tryz.func133 rfl (sides133 R) (Eq.mp (by kernel_rfl) h)

def F134 (a0:OA) (w:World) (R:KV):Prop :=
 optP a0 fun ad1=>R (.pointer (some (Addr.add ad1 2))) w
def A134 (R:KV):Ann:=.no
theorem sides134 (R:KV):zak PP Tryz.f134 (A134 R) R:=by
 trivial
theorem call134 (a0:OA) (w:World) (R:KV) (h:F134 a0 w R):zaj PP 134 #[(.pointer a0)] w R :=
 zah (an:=A134 R) Tryz.func134 rfl (sides134 R) (Eq.mp (by kernel_rfl) h)

def F136 (a0:Int) (a1:Int) (w:World) (R:KV):Prop :=
 ifB ((a1:Int) == 2) (ifB ((a0:Int) == 0) (R (.bool true) w) (R (.bool ((a0:Int) == 243)) w)) (ifB ((a1:Int) == 1) (R (.bool ((a0:Int) == 238)) w) (R (.bool true) w))
def A136 (R:KV):Ann:=.no
theorem sides136 (R:KV):zak PP Tryz.f136 (A136 R) R:=by
 trivial
theorem call136 (a0:Int) (a1:Int) (w:World) (R:KV) (h:F136 a0 a1 w R):zaj PP 136 #[(i6 a0),(i6 a1)] w R :=
 zah (an:=A136 R) Tryz.func136 rfl (sides136 R) (Eq.mp (by kernel_rfl) h)

def J137_1 (R:KV) (x6:Addr) (x7:Addr) (x17:Bool) (w:World):Prop :=
 ifB x17 (R (i6 0) w) (gI .i64 w (Addr.add x6 1) fun n1=>ifB ((n1:Int) == 128) (R (i6 82) w) (gI .i64 w (Addr.add x7 1) fun n2=>gI .i64 w (Addr.add x6 1) fun n3=>ifB (decide ((n2:Int) > n3)) (R (i6 83) w) (R (i6 0) w)))
def J137_0 (R:KV) (x1:Int) (x6:Addr) (x7:Addr) (x9:Bool) (w:World):Prop :=
 ifB x9 (R (i6 82) w) (ifB ((x1:Int) == 227) (J137_1 R x6 x7 true w) (gI .i64 w (Addr.add x7 1) fun n1=>J137_1 R x6 x7 ((n1:Int) == 128) w))
def F137 (a0:OA) (a1:Int) (a2_0:Int) (a2_1:Int) (a2_2:Int) (a3_0:Int) (a3_1:Int) (a3_2:Int) (w:World) (R:KV):Prop :=
 zaf w (.cells #[(i6 a2_0),(i6 a2_1),(i6 a2_2)] 52) fun w1=>zaf w1 (.cells #[(i6 a3_0),(i6 a3_1),(i6 a3_2)] 52) fun w2=>ifB ((a1:Int) == 227) (gI .i64 w2 ⟨w1.heap.size,1,none⟩ fun n1=>J137_0 R a1 ⟨w.heap.size,0,none⟩ ⟨w1.heap.size,0,none⟩ ((n1:Int) == 128) w2) (J137_0 R a1 ⟨w.heap.size,0,none⟩ ⟨w1.heap.size,0,none⟩ false w2)
def A137 (R:KV):Ann:=(sN (.seq (.block (.join (fun e ds w=>nilD ds (aI e 1 fun x1=>asA (e 6) fun x6=>asA (e 7) fun x7=>asB (e 9) fun x9=>J137_0 R x1 x6 x7 x9 w)) .no (.cond .no (.join (fun e ds w=>nilD ds (asA (e 6) fun x6=>asA (e 7) fun x7=>asB (e 17) fun x17=>J137_1 R x6 x7 x17 w)) .no .no)))) .no))
theorem sides137 (R:KV):zak PP Tryz.f137 (A137 R) R:=by
 exact (zt (ai (ai (zsi fun e w h=>eI h fun z1 h=>eA h fun z6 h=>eA h fun z7 h=>eB h fun z9 h=>by rw [← zag (aC z1 (aC z6 (aC z7 (aC z9 aN))))];exact zq h) (zt (zt (ai (zsi fun e w h=>eA h fun z6 h=>eA h fun z7 h=>eB h fun z17 h=>by rw [← zag (aC z6 (aC z7 (aC z17 aN)))];exact zq h) (ai trivial trivial))))) trivial))
theorem call137 (a0:OA) (a1:Int) (a2_0:Int) (a2_1:Int) (a2_2:Int) (a3_0:Int) (a3_1:Int) (a3_2:Int) (w:World) (R:KV) (h:F137 a0 a1 a2_0 a2_1 a2_2 a3_0 a3_1 a3_2 w R):zaj PP 137 #[(.pointer a0),(i6 a1),(.agg #[(i6 a2_0),(i6 a2_1),(i6 a2_2)]),(.agg #[(i6 a3_0),(i6 a3_1),(i6 a3_2)])] w R :=
 zah (an:=A137 R) Tryz.func137 rfl (sides137 R) (Eq.mp (by kernel_rfl) h)

def J138_3 (R:KV) (C_L138_2:OA→Nat→Nat→Int→OA→Nat→Nat→OA→Bool→OA→Nat→Nat→Int→Int→List Deferred→World→Prop) (x0p:OA) (x0l:Nat) (x0c:Nat) (x1:Int) (x2p:OA) (x2l:Nat) (x2c:Nat) (x6:OA) (x7:Bool) (x24p:OA) (x24l:Nat) (x24c:Nat) (x25:Int) (x26:Int) (ds:List Deferred) (w:World):Prop :=
 C_L138_2 x0p x0l x0c x1 x2p x2l x2c x6 x7 x24p x24l x24c x25 (IntKind.wrap .i64 (x26+1)) ds w
def J138_4 (R:KV) (C_L138_2:OA→Nat→Nat→Int→OA→Nat→Nat→OA→Bool→OA→Nat→Nat→Int→Int→List Deferred→World→Prop) (x0p:OA) (x0l:Nat) (x0c:Nat) (x1:Int) (x2p:OA) (x2l:Nat) (x2c:Nat) (x6:OA) (x7:Bool) (x24p:OA) (x24l:Nat) (x24c:Nat) (x25:Int) (x26:Int) (x57:Bool) (ds:List Deferred) (w:World):Prop :=
 ifB x57 (zcx ds w fun w1=>R (.tuple #[(.pointer none),(.bool false)]) w1) (J138_3 R C_L138_2 x0p x0l x0c x1 x2p x2l x2c x6 x7 x24p x24l x24c x25 x26 ds w)
def B138_6 (R:KV) (l:Nat) (r:Loop) (x12:Addr) (args:List Value) (w:World):Prop :=
 readyA w l r (hG args fun q10 ys0=>hI .i64 q10 fun n1 q11=>hI .i64 q11 fun n2 q12=>hL q12 fun l1p l1l l1c q13=>hI .i64 q13 fun n3 q14=>zav q14 (zav ys0 (zaf w (.cells #[(i6 0),(i6 0),(.slice none 0 0),(i6 0)] 70) fun w1=>sU 70 ⟨w.heap.size,0,none⟩ (.agg #[(i6 n1),(i6 n2),(.slice l1p l1l l1c),(i6 n3)]) w1 fun w2=>readyA w2 l r (putK w2 l (zbs r .busy none) fun w3=>zbf w3 fun w4=>gP w4 x12 fun p1=>optP p1 fun ad1=>ldK PP w4 (Addr.add ad1 5) fun v2=>asM v2 fun m1=>gI .i64 w4 ⟨w.heap.size,0,none⟩ fun n4=>gP w4 x12 fun p2=>optP p2 fun ad2=>gL w4 (Addr.add ad2 4) fun l2p l2l l2c=>semU PP (Instr.mapUpdate 165 (.map m1) (i6 n4) (i6 (l2l:Nat))) w4 fun w5=>zbf w5 fun w6=>gP w6 x12 fun p3=>gP w6 x12 fun p4=>optP p4 fun ad3=>gL w6 (Addr.add ad3 4) fun l3p l3l l3c=>mb13 w6 w.heap.size fun n5 n6 l4p l4l l4c n7=>zaf w6 (.cells #[(i6 n5),(i6 n6),(.slice l4p l4l l4c),(i6 n7)] 70) fun w7=>(gP w7 x12 fun p5=>((.pointer p5):Value)=(.pointer p3))∧((gP w7 x12 fun p6=>((.pointer p6):Value)=(.pointer p4))∧((gL w7 (Addr.add ad3 4) fun l5p l5l l5c=>((.slice l5p l5l l5c):Value)=(.slice l3p l3l l3c))∧(semK PP (Builtin.append_ #[148,148] 148 #[(.slice l3p l3l l3c),(.slice (some ⟨w6.heap.size,0,none⟩) 1 1)]) w7 fun v16 w8=>asL v16 fun l6p l6l l6c=>(gP w8 x12 fun p7=>((.pointer p7):Value)=(.pointer p3))∧(optP p3 fun ad4=>sU 148 (Addr.add ad4 4) (.slice l6p l6l l6c) w8 fun w9=>stopA l r none R w9))))))))
def J138_7 (R:KV) (x12:Addr) (ds:List Deferred) (w:World):Prop :=
 gP w x12 fun p1=>zcx ds w fun w1=>R (.tuple #[(.pointer p1),(.bool true)]) w1
def L138_8 (R:KV):Nat→Addr→OA→Nat→Nat→Int→Int→List Deferred→World→Prop
 | 0=>fun _ _ _ _ _ _ _ _=>False
 | k+1=>fun x12 x101p x101l x101c x102 x103 ds w=>ifB (decide ((x103:Int) < x102)) (semK PP (Instr.indexAt 148 (.slice x101p x101l x101c) (i6 x103)) w fun v1 w1=>asA v1 fun ad1=>ma12 w1 ad1 fun n1 n2 l1p l1l l1c n3=>zaf w1 (.cells #[(i6 0),(i6 0),(.slice none 0 0),(i6 0)] 70) fun w2=>sU 70 ⟨w1.heap.size,0,none⟩ (.agg #[(i6 n1),(i6 n2),(.slice l1p l1l l1c),(i6 n3)]) w2 fun w3=>gP w3 x12 fun p1=>mb13 w3 w1.heap.size fun n4 n5 l2p l2l l2c n6=>CV 158 #[(.pointer p1),(.agg #[(i6 n4),(i6 n5),(.slice l2p l2l l2c),(i6 n6)])] w3 fun v11 w4=>asB v11 fun b1=>ifB (!b1) (zcx ds w4 fun w5=>R (.tuple #[(.pointer none),(.bool false)]) w5) (L138_8 R k x12 x101p x101l x101c x102 (IntKind.wrap .i64 (x103+1)) ds w4)) (J138_7 R x12 ds w)
def J138_5 (R:KV) (x12:Addr) (ds:List Deferred) (w:World):Prop :=
 gP w x12 fun p1=>optP p1 fun ad1=>gL w (Addr.add ad1 4) fun l1p l1l l1c=>∃ m,L138_8 R m x12 l1p l1l l1c (l1l:Nat) 0 ds w
def J138_1 (R:KV) (x0p:OA) (x0l:Nat) (x0c:Nat) (x1:Int) (x2p:OA) (x2l:Nat) (x2c:Nat) (x6:OA) (x7:Bool) (ds:List Deferred) (w:World):Prop :=
 CV 157 #[(.slice x2p x2l x2c)] w fun v1 w1=>dT3 v1 fun n1 n2=>ifB ((n1:Int) != 0) (zcx ds w1 fun w2=>R (.tuple #[(.pointer none),(.bool false)]) w2) (semK PP (Instr.indexAt 24 (.slice x0p x0l x0c) (i6 x1)) w1 fun v2 w3=>asA v2 fun ad1=>ma7 w3 ad1 fun n3 n4 n5=>zaf w3 (.map #[] 0) fun w4=>zaf w4 (.cells #[(.slice x0p x0l x0c),(i6 n3),(i6 n4),(i6 n5),(.slice none 0 0),(.map (some w3.heap.size))] 239) fun w5=>zaf w5 (.cells #[(.pointer none)] 234) fun w6=>sU 234 ⟨w5.heap.size,0,none⟩ (.pointer (some ⟨w4.heap.size,0,none⟩)) w6 fun w7=>CV 75 #[(.slice x2p x2l x2c)] w7 fun v6 w8=>entO w8 fun lz1 rz1 mkz1 waz1=>yieldA PP lz1 (fun args wy F=>B138_6 F lz1 rz1 ⟨w5.heap.size,0,none⟩ args wy) (enterV PP v6 #[.func (.yield lz1) #[] #[]] waz1 fun _ wbz1=>endA lz1 rz1 wbz1 fun pe wcz1=>jumpP pe wcz1 (fun wdz1=>J138_5 R ⟨w5.heap.size,0,none⟩ (mkz1++ds) wdz1) (fun wdz1=>zcx (mkz1++ds) wdz1 fun w9=>R (.tuple #[(.pointer x6),(.bool x7)]) w9) (fun jd wdz1=>cond (Nat.beq jd 2) (J138_5 R ⟨w5.heap.size,0,none⟩ (mkz1++ds) wdz1) (False)) (fun jt wdz1=>False)))
def L138_2 (R:KV):Nat→OA→Nat→Nat→Int→OA→Nat→Nat→OA→Bool→OA→Nat→Nat→Int→Int→List Deferred→World→Prop
 | 0=>fun _ _ _ _ _ _ _ _ _ _ _ _ _ _ _ _=>False
 | k+1=>fun x0p x0l x0c x1 x2p x2l x2c x6 x7 x24p x24l x24c x25 x26 ds w=>ifB (decide ((x26:Int) < x25)) (semK PP (Instr.indexAt 24 (.slice x24p x24l x24c) (i6 x26)) w fun v1 w1=>asA v1 fun ad1=>ma7 w1 ad1 fun n1 n2 n3=>zaf w1 (.cells #[(i6 0),(i6 0),(i6 0)] 52) fun w2=>sU 52 ⟨w1.heap.size,0,none⟩ (.agg #[(i6 n1),(i6 n2),(i6 n3)]) w2 fun w3=>gI .i64 w3 ⟨w1.heap.size,0,none⟩ fun n4=>ifB (decide ((n4:Int) < 0)) (J138_4 R (L138_2 R k) x0p x0l x0c x1 x2p x2l x2c x6 x7 x24p x24l x24c x25 x26 true ds w3) (gI .i64 w3 ⟨w1.heap.size,0,none⟩ fun n5=>ifB (decide ((n5:Int) > 127)) (J138_4 R (L138_2 R k) x0p x0l x0c x1 x2p x2l x2c x6 x7 x24p x24l x24c x25 x26 true ds w3) (gI .i64 w3 ⟨w1.heap.size,1,none⟩ fun n6=>ifB (decide ((n6:Int) < 0)) (J138_4 R (L138_2 R k) x0p x0l x0c x1 x2p x2l x2c x6 x7 x24p x24l x24c x25 x26 true ds w3) (gI .i64 w3 ⟨w1.heap.size,1,none⟩ fun n7=>ifB (decide ((n7:Int) > 128)) (J138_4 R (L138_2 R k) x0p x0l x0c x1 x2p x2l x2c x6 x7 x24p x24l x24c x25 x26 true ds w3) (gI .i64 w3 ⟨w1.heap.size,2,none⟩ fun n8=>ifB (decide ((n8:Int) < 0)) (J138_4 R (L138_2 R k) x0p x0l x0c x1 x2p x2l x2c x6 x7 x24p x24l x24c x25 x26 true ds w3) (gI .i64 w3 ⟨w1.heap.size,2,none⟩ fun n9=>J138_4 R (L138_2 R k) x0p x0l x0c x1 x2p x2l x2c x6 x7 x24p x24l x24c x25 x26 (decide ((n9:Int) > 1023)) ds w3)))))) (J138_1 R x0p x0l x0c x1 x2p x2l x2c x6 x7 ds w)
def J138_0 (R:KV) (x0p:OA) (x0l:Nat) (x0c:Nat) (x1:Int) (x2p:OA) (x2l:Nat) (x2c:Nat) (x6:OA) (x7:Bool) (ds:List Deferred) (w:World):Prop :=
 ∃ m,L138_2 R m x0p x0l x0c x1 x2p x2l x2c x6 x7 x0p x0l x0c (x0l:Nat) 0 ds w
def F138 (a0p:OA) (a0l:Nat) (a0c:Nat) (a1:Int) (a2p:OA) (a2l:Nat) (a2c:Nat) (w:World) (R:KV):Prop :=
 ifB (decide ((a1:Int) < 0)) (R (.tuple #[(.pointer none),(.bool false)]) w) (ifB (decide ((a1:Int) ≥ (a0l:Nat))) (R (.tuple #[(.pointer none),(.bool false)]) w) (J138_0 R a0p a0l a0c a1 a2p a2l a2c none false ([]) w))
def A138 (R:KV):Ann:=(sN (.join (fun e ds w=>asL (e 0) fun x0p x0l x0c=>aI e 1 fun x1=>asL (e 2) fun x2p x2l x2c=>asP (e 6) fun x6=>asB (e 7) fun x7=>J138_0 R x0p x0l x0c x1 x2p x2l x2c x6 x7 ds w) .no (.join (fun e ds w=>asL (e 0) fun x0p x0l x0c=>aI e 1 fun x1=>asL (e 2) fun x2p x2l x2c=>asP (e 6) fun x6=>asB (e 7) fun x7=>J138_1 R x0p x0l x0c x1 x2p x2l x2c x6 x7 ds w) (sN (.block (.loop (fun m e ds w=>asL (e 0) fun x0p x0l x0c=>aI e 1 fun x1=>asL (e 2) fun x2p x2l x2c=>asP (e 6) fun x6=>asB (e 7) fun x7=>asL (e 24) fun x24p x24l x24c=>aI e 25 fun x25=>aI e 26 fun x26=>L138_2 R m x0p x0l x0c x1 x2p x2l x2c x6 x7 x24p x24l x24c x25 x26 ds w) (fun kL138_2=>(sN (sN (.join (fun e ds w=>asL (e 0) fun x0p x0l x0c=>aI e 1 fun x1=>asL (e 2) fun x2p x2l x2c=>asP (e 6) fun x6=>asB (e 7) fun x7=>asL (e 24) fun x24p x24l x24c=>aI e 25 fun x25=>aI e 26 fun x26=>J138_3 R (L138_2 R kL138_2) x0p x0l x0c x1 x2p x2l x2c x6 x7 x24p x24l x24c x25 x26 ds w) (.block (sN (.join (fun e ds w=>asL (e 0) fun x0p x0l x0c=>aI e 1 fun x1=>asL (e 2) fun x2p x2l x2c=>asP (e 6) fun x6=>asB (e 7) fun x7=>asL (e 24) fun x24p x24l x24c=>aI e 25 fun x25=>aI e 26 fun x26=>asB (e 57) fun x57=>J138_4 R (L138_2 R kL138_2) x0p x0l x0c x1 x2p x2l x2c x6 x7 x24p x24l x24c x25 x26 x57 ds w) .no .no))) .no))))))) (sN (sN (.join (fun e ds w=>asA (e 12) fun x12=>J138_5 R x12 ds w) (sN (.block (.rng [.agg [(.i .i64),(.i .i64),.sl,(.i .i64)]] (fun l6 r6 F6=>.no) (fun l6 r6 F6=>(.block (.seq (.draw [0,1,2,3,4,5,6,7,8,9,10,11]) (.draw [0,1,2,3,4,5,6,7,8,9,10]))))))) (.join (fun e ds w=>asA (e 12) fun x12=>J138_7 R x12 ds w) (sN (.block (.loop (fun m e ds w=>asA (e 12) fun x12=>asL (e 101) fun x101p x101l x101c=>aI e 102 fun x102=>aI e 103 fun x103=>L138_8 R m x12 x101p x101l x101c x102 x103 ds w) (fun kL138_8=>.no)))) .no)))))))
theorem sides138 (R:KV):zak PP Tryz.f138 (A138 R) R:=by
 exact (zt (ai (fun e ds w h=>eL h fun z0 h=>eI h fun z1 h=>eL h fun z2 h=>eP h fun z6 h=>eB h fun z7 h=>by rw [← zag (aC z0 (aC z1 (aC z2 (aC z6 (aC z7 aN)))))];exact zq h) (zt (ai (fun e ds w h=>eL h fun z0 h=>eI h fun z1 h=>eL h fun z2 h=>eP h fun z6 h=>eB h fun z7 h=>by rw [← zag (aC z0 (aC z1 (aC z2 (aC z6 (aC z7 aN)))))];exact zq h) (ai (zt (ai (fun e ds w h=>eL h fun z0 h=>eI h fun z1 h=>eL h fun z2 h=>eP h fun z6 h=>eB h fun z7 h=>eL h fun z24 h=>eI h fun z25 h=>eI h fun z26 h=>h) (ai (fun kL138_2 e ds w h=>eL h fun z0 h=>eI h fun z1 h=>eL h fun z2 h=>eP h fun z6 h=>eB h fun z7 h=>eL h fun z24 h=>eI h fun z25 h=>eI h fun z26 h=>by rw [← zag (aC z0 (aC z1 (aC z2 (aC z6 (aC z7 (aC z24 (aC z25 (aC z26 aN))))))))];exact zq h) (fun kL138_2=>(zt (zt (ai (fun e ds w h=>eL h fun z0 h=>eI h fun z1 h=>eL h fun z2 h=>eP h fun z6 h=>eB h fun z7 h=>eL h fun z24 h=>eI h fun z25 h=>eI h fun z26 h=>by rw [← zag (aC z0 (aC z1 (aC z2 (aC z6 (aC z7 (aC z24 (aC z25 (aC z26 aN))))))))];exact zq h) (ai (zt (ai (fun e ds w h=>eL h fun z0 h=>eI h fun z1 h=>eL h fun z2 h=>eP h fun z6 h=>eB h fun z7 h=>eL h fun z24 h=>eI h fun z25 h=>eI h fun z26 h=>eB h fun z57 h=>by rw [← zag (aC z0 (aC z1 (aC z2 (aC z6 (aC z7 (aC z24 (aC z25 (aC z26 (aC z57 aN)))))))))];exact zq h) (ai trivial trivial))) trivial)))))))) (zt (zt (ai (fun e ds w h=>eA h fun z12 h=>by rw [← zag (aC z12 aN)];exact zq h) (ai (zt (fun l6 r6 F6=>ai trivial (ai trivial trivial))) (ai (fun e ds w h=>eA h fun z12 h=>by rw [← zag (aC z12 aN)];exact zq h) (ai (zt (ai (fun e ds w h=>eA h fun z12 h=>eL h fun z101 h=>eI h fun z102 h=>eI h fun z103 h=>h) (ai (fun kL138_8 e ds w h=>eA h fun z12 h=>eL h fun z101 h=>eI h fun z102 h=>eI h fun z103 h=>by rw [← zag (aC z12 (aC z101 (aC z102 (aC z103 aN))))];exact zq h) (fun kL138_8=>trivial)))) trivial)))))))))))
theorem call138 (a0p:OA) (a0l:Nat) (a0c:Nat) (a1:Int) (a2p:OA) (a2l:Nat) (a2c:Nat) (w:World) (R:KV) (h:F138 a0p a0l a0c a1 a2p a2l a2c w R):zaj PP 138 #[(.slice a0p a0l a0c),(i6 a1),(.slice a2p a2l a2c)] w R :=
 zah (an:=A138 R) Tryz.func138 rfl (sides138 R) (Eq.mp (by kernel_rfl) h)

def J139_0 (R:KV) (x0:OA) (x4:Addr) (x5:Addr) (x7:Int) (x8:Int) (w:World):Prop :=
 gI .i64 w (Addr.add x4 1) fun n1=>ifB ((n1:Int) == 229) (ma12 w x4 fun n2 n3 l1p l1l l1c n4=>CV 159 #[(.pointer x0),(.agg #[(i6 n2),(i6 n3),(.slice l1p l1l l1c),(i6 n4)])] w fun v6 w1=>dG35 v6 fun n5 n6 n7=>zaf w1 (.cells #[(i6 0),(i6 0),(i6 0)] 52) fun w2=>sU 52 ⟨w1.heap.size,0,none⟩ (.agg #[(i6 n5),(i6 n6),(i6 n7)]) w2 fun w3=>zbf w3 fun w4=>optP x0 fun ad1=>gI .i64 w4 (Addr.add (Addr.add ad1 1) 1) fun n8=>gI .i64 w4 ⟨w1.heap.size,1,none⟩ fun n9=>mb32 w4 w1.heap.size fun n10 n11=>ifB ((n11:Int) != 128) (ma33 w4 x5 fun n12 n13=>ifB (!(((n12:Int) == (IntKind.wrap .i64 ((IntKind.wrap .i64 (n8 - n9))+n10))) && ((n13:Int) == (IntKind.wrap .i64 ((IntKind.wrap .i64 (n8 - n9))+n10))))) (R (i6 74) w4) (R (i6 0) w4)) (R (i6 0) w4)) (gI .i64 w (Addr.add x5 1) fun n14=>ifB (decide ((IntKind.wrap .i64 ((IntKind.wrap .i64 (n14 - x7))+x8):Int) > 1023)) (R (i6 71) w) (R (i6 0) w))
def J139_1 (R:KV) (x0:OA) (x4:Addr) (x5:Addr) (x7:Int) (x8:Int) (x36:Bool) (w:World):Prop :=
 ifB x36 (zbf w fun w1=>gI .i64 w1 (Addr.add x5 1) fun n1=>ma12 w1 x4 fun n2 n3 l1p l1l l1c n4=>CV 159 #[(.pointer x0),(.agg #[(i6 n2),(i6 n3),(.slice l1p l1l l1c),(i6 n4)])] w1 fun v6 w2=>dG35 v6 fun n5 n6 n7=>(gI .i64 w2 (Addr.add x5 1) fun n8=>((i6 n8):Value)=(i6 n1))∧(ifB (decide ((IntKind.wrap .i64 ((IntKind.wrap .i64 (n1 - x7))+n7):Int) > 1024)) (R (i6 71) w2) (J139_0 R x0 x4 x5 x7 x8 w2))) (J139_0 R x0 x4 x5 x7 x8 w)
def F139 (a0:OA) (a1_0:Int) (a1_1:Int) (a1_2p:OA) (a1_2l:Nat) (a1_2c:Nat) (a1_3:Int) (a2_0:Int) (a2_1:Int) (w:World) (R:KV):Prop :=
 zaf w (.cells #[(i6 a1_0),(i6 a1_1),(.slice a1_2p a1_2l a1_2c),(i6 a1_3)] 70) fun w1=>zaf w1 (.cells #[(i6 a2_0),(i6 a2_1)] 241) fun w2=>mb13 w2 w.heap.size fun n1 n2 l1p l1l l1c n3=>CV 141 #[(.pointer a0),(.agg #[(i6 n1),(i6 n2),(.slice l1p l1l l1c),(i6 n3)])] w2 fun v5 w3=>dT3 v5 fun n4 n5=>gI .i64 w3 ⟨w.heap.size,1,none⟩ fun n6=>ifB ((n6:Int) == 228) (mb32 w3 w1.heap.size fun n7 n8=>ifB (!(((n7:Int) == n4) && ((n8:Int) == n4))) (R (i6 74) w3) (R (i6 0) w3)) (gI .i64 w3 ⟨w1.heap.size,0,none⟩ fun n9=>ifB (decide ((n9:Int) < n4)) (R (i6 70) w3) (gI .i64 w3 ⟨w.heap.size,1,none⟩ fun n10=>ifB ((n10:Int) == 227) (J139_1 R a0 ⟨w.heap.size,0,none⟩ ⟨w1.heap.size,0,none⟩ n4 n5 true w3) (gI .i64 w3 ⟨w.heap.size,1,none⟩ fun n11=>J139_1 R a0 ⟨w.heap.size,0,none⟩ ⟨w1.heap.size,0,none⟩ n4 n5 ((n11:Int) == 229) w3)))
def A139 (R:KV):Ann:=(sN (sN (sN (sN (.join (fun e ds w=>nilD ds (asP (e 0) fun x0=>asA (e 4) fun x4=>asA (e 5) fun x5=>aI e 7 fun x7=>aI e 8 fun x8=>J139_0 R x0 x4 x5 x7 x8 w)) (.join (fun e ds w=>nilD ds (asP (e 0) fun x0=>asA (e 4) fun x4=>asA (e 5) fun x5=>aI e 7 fun x7=>aI e 8 fun x8=>asB (e 36) fun x36=>J139_1 R x0 x4 x5 x7 x8 x36 w)) .no (.cond (.seq (.draw [0,1,2,3,4,5,6,7,8,9]) .no) .no)) (.seq (sN (.cond (sN (.seq (.draw [0,1,2,3,4,5,6,7,8,9,10,11]) .no)) .no)) .no))))))
theorem sides139 (R:KV):zak PP Tryz.f139 (A139 R) R:=by
 exact (zt (zt (zt (zt (ai (zsi fun e w h=>eP h fun z0 h=>eA h fun z4 h=>eA h fun z5 h=>eI h fun z7 h=>eI h fun z8 h=>by rw [← zag (aC z0 (aC z4 (aC z5 (aC z7 (aC z8 aN)))))];exact zq h) (ai (ai (zsi fun e w h=>eP h fun z0 h=>eA h fun z4 h=>eA h fun z5 h=>eI h fun z7 h=>eI h fun z8 h=>eB h fun z36 h=>by rw [← zag (aC z0 (aC z4 (aC z5 (aC z7 (aC z8 (aC z36 aN))))))];exact zq h) (zt (ai (ai trivial trivial) trivial))) (ai (zt (ai (zt (ai trivial trivial)) trivial)) trivial)))))))
theorem call139 (a0:OA) (a1_0:Int) (a1_1:Int) (a1_2p:OA) (a1_2l:Nat) (a1_2c:Nat) (a1_3:Int) (a2_0:Int) (a2_1:Int) (w:World) (R:KV) (h:F139 a0 a1_0 a1_1 a1_2p a1_2l a1_2c a1_3 a2_0 a2_1 w R):zaj PP 139 #[(.pointer a0),(.agg #[(i6 a1_0),(i6 a1_1),(.slice a1_2p a1_2l a1_2c),(i6 a1_3)]),(.agg #[(i6 a2_0),(i6 a2_1)])] w R :=
 zah (an:=A139 R) Tryz.func139 rfl (sides139 R) (Eq.mp (by kernel_rfl) h)

def F140 (a0_0:Int) (a0_1:Int) (a1:Int) (a2:Int) (w:World) (R:KV):Prop :=
 zaf w (.cells #[(i6 a0_0),(i6 a0_1)] 241) fun w1=>zaf w1 (.cells #[(i6 0),(i6 0)] 241) fun w2=>mb32 w2 w.heap.size fun n1 n2=>sU 241 ⟨w1.heap.size,0,none⟩ (.agg #[(i6 (IntKind.wrap .i64 ((IntKind.wrap .i64 (n1 - a1))+a2))),(i6 (IntKind.wrap .i64 ((IntKind.wrap .i64 (n2 - a1))+a2)))]) w2 fun w3=>mb32 w3 w1.heap.size fun n3 n4=>R (.agg #[(i6 n3),(i6 n4)]) w3
def A140 (R:KV):Ann:=.no
theorem sides140 (R:KV):zak PP Tryz.f140 (A140 R) R:=by
 trivial
theorem call140 (a0_0:Int) (a0_1:Int) (a1:Int) (a2:Int) (w:World) (R:KV) (h:F140 a0_0 a0_1 a1 a2 w R):zaj PP 140 #[(.agg #[(i6 a0_0),(i6 a0_1)]),(i6 a1),(i6 a2)] w R :=
 zah (an:=A140 R) Tryz.func140 rfl (sides140 R) (Eq.mp (by kernel_rfl) h)

def F141 (a0:OA) (a1_0:Int) (a1_1:Int) (a1_2p:OA) (a1_2l:Nat) (a1_2c:Nat) (a1_3:Int) (w:World) (R:KV):Prop :=
 zaf w (.cells #[(i6 a1_0),(i6 a1_1),(.slice a1_2p a1_2l a1_2c),(i6 a1_3)] 70) fun w1=>gI .i64 w1 ⟨w.heap.size,1,none⟩ fun n1=>ifB ((n1:Int) == 227) (mb13 w1 w.heap.size fun n2 n3 l1p l1l l1c n4=>CV 159 #[(.pointer a0),(.agg #[(i6 n2),(i6 n3),(.slice l1p l1l l1c),(i6 n4)])] w1 fun v6 w2=>dG35 v6 fun n5 n6 n7=>zaf w2 (.cells #[(i6 0),(i6 0),(i6 0)] 52) fun w3=>sU 52 ⟨w2.heap.size,0,none⟩ (.agg #[(i6 n5),(i6 n6),(i6 n7)]) w3 fun w4=>zbf w4 fun w5=>mb32 w5 w2.heap.size fun n8 n9=>R (.tuple #[(i6 n8),(i6 n9)]) w5) (ifB ((n1:Int) == 229) (mb13 w1 w.heap.size fun n10 n11 l2p l2l l2c n12=>CV 159 #[(.pointer a0),(.agg #[(i6 n10),(i6 n11),(.slice l2p l2l l2c),(i6 n12)])] w1 fun v13 w6=>dG35 v13 fun n13 n14 n15=>R (.tuple #[(i6 n13),(i6 0)]) w6) (ifB ((n1:Int) == 228) (optP a0 fun ad1=>gI .i64 w1 (Addr.add (Addr.add ad1 1) 1) fun n16=>R (.tuple #[(i6 n16),(i6 0)]) w1) (gI .i64 w1 ⟨w.heap.size,1,none⟩ fun n17=>gL w1 ⟨w.heap.size,2,none⟩ fun l3p l3l l3c=>CV 160 #[(i6 n17),(.slice l3p l3l l3c)] w1 fun v17 w7=>dT36 v17 fun n18 n19 b1=>R (.tuple #[(i6 n18),(i6 n19)]) w7)))
def A141 (R:KV):Ann:=(sN (.seq (sN (.block (sN (.cond (sN (.seq (.draw [0,1,2,3,4,5]) .no)) .no)))) .no))
theorem sides141 (R:KV):zak PP Tryz.f141 (A141 R) R:=by
 exact (zt (ai (zt (zt (ai (zt (ai trivial trivial)) trivial))) trivial))
theorem call141 (a0:OA) (a1_0:Int) (a1_1:Int) (a1_2p:OA) (a1_2l:Nat) (a1_2c:Nat) (a1_3:Int) (w:World) (R:KV) (h:F141 a0 a1_0 a1_1 a1_2p a1_2l a1_2c a1_3 w R):zaj PP 141 #[(.pointer a0),(.agg #[(i6 a1_0),(i6 a1_1),(.slice a1_2p a1_2l a1_2c),(i6 a1_3)])] w R :=
 zah (an:=A141 R) Tryz.func141 rfl (sides141 R) (Eq.mp (by kernel_rfl) h)

def F142 (a0:Int) (a1:Addr) (a2:Addr) (a3:Addr) (a4:Addr) (w:World) (R:KV):Prop :=
 gI .i64 w a1 fun n1=>ifB (decide ((a0:Int)≤n1)) (zbf w fun w1=>gL w1 a2 fun l1p l1l l1c=>semK PP (Instr.indexAt 237 (.slice l1p l1l l1c) (i6 a0)) w1 fun v3 w2=>asA v3 fun ad1=>ma33 w1 ad1 fun n2 n3=>ma33 w1 a3 fun n4 n5=>R (.bool (((n2:Int) == n4) && ((n3:Int) == n5))) w1) (gL w a4 fun l2p l2l l2c=>semK PP (Instr.indexAt 47 (.slice l2p l2l l2c) (i6 a0)) w fun v9 w3=>asA v9 fun ad2=>gB w3 ad2 fun b1=>ifB (!b1) (zbf w3 fun w4=>gL w4 a2 fun l3p l3l l3c=>gL w4 a4 fun l4p l4l l4c=>ma33 w4 a3 fun n6 n7=>semK PP (Instr.indexAt 237 (.slice l3p l3l l3c) (i6 a0)) w4 fun v15 w5=>asA v15 fun ad3=>sU 241 ad3 (.agg #[(i6 n6),(i6 n7)]) w4 fun w6=>(gL w6 a4 fun l5p l5l l5c=>((.slice l5p l5l l5c):Value)=(.slice l4p l4l l4c))∧(semK PP (Instr.indexAt 47 (.slice l4p l4l l4c) (i6 a0)) w6 fun v17 w7=>asA v17 fun ad4=>sU 4 ad4 (.bool true) w6 fun w8=>R (.bool true) w8)) (zbf w3 fun w9=>gL w9 a2 fun l6p l6l l6c=>gL w9 a2 fun l7p l7l l7c=>semK PP (Instr.indexAt 237 (.slice l7p l7l l7c) (i6 a0)) w9 fun v20 w10=>asA v20 fun ad5=>gI .i64 w9 ad5 fun n8=>gI .i64 w9 a3 fun n9=>gL w9 a2 fun l8p l8l l8c=>semK PP (Instr.indexAt 237 (.slice l8p l8l l8c) (i6 a0)) w9 fun v24 w11=>asA v24 fun ad6=>gI .i64 w9 (Addr.add ad6 1) fun n10=>gI .i64 w9 (Addr.add a3 1) fun n11=>semK PP (Instr.indexAt 237 (.slice l6p l6l l6c) (i6 a0)) w9 fun v27 w12=>asA v27 fun ad7=>sU 241 ad7 (.agg #[(i6 (if (n9:Int) < n8 then n9 else n8)),(i6 (if (n11:Int) > n10 then n11 else n10))]) w9 fun w13=>R (.bool true) w13))
def A142 (R:KV):Ann:=(sN (.seq (.block (sN (.cond (.seq (.draw [0,1,2,3,4,5,6]) .no) (sN (.cond (.draw [0,1,2,3,4,5,6,7,8]) (.draw [0,1,2,3,4,5,6,7,8,9,10,11,12,13,14,15,16,17,18,19,20])))))) .no))
theorem sides142 (R:KV):zak PP Tryz.f142 (A142 R) R:=by
 exact (zt (ai (zt (ai (ai trivial trivial) (zt (ai trivial trivial)))) trivial))
theorem call142 (a0:Int) (a1:Addr) (a2:Addr) (a3:Addr) (a4:Addr) (w:World) (R:KV) (h:F142 a0 a1 a2 a3 a4 w R):zaj PP 142 #[(i6 a0),(.pointer (some a1)),(.pointer (some a2)),(.pointer (some a3)),(.pointer (some a4))] w R :=
 zah (an:=A142 R) Tryz.func142 rfl (sides142 R) (Eq.mp (by kernel_rfl) h)

end Go.Proofs.YtlfhngoeecjfpaaGreatDoor.W
namespace Go.Proofs.YtlfhngoeecjfpaaGreatDoor.B
open Go Go.RowKit Go.Proofs.YtlfhngoeecjfpaaGreatDoor.Sh Go.Proofs.YtlfhngoeecjfpaaGreatDoor.W
def sumT (a b:Int):Int:=if a+b > 18446744073709551615 then 18446744073709551615 else a+b
theorem f153 {a b:Int} {w:World} {K:Value→World→Prop} (h0:0≤a) (h1:a≤18446744073709551615) (h2:0≤b) (h3:b≤18446744073709551615) (k:K (.int .u64 (sumT a b)) w):zaj Tryz.prog 153 #[.int .u64 a,.int .u64 b] w K:=by
 refine call153 _ _ _ _ ?_
 unfold F153
 rw [u64w (18446744073709551615 - b),u64w (a+b)]
 refine ifD (fun hc=>?_) (fun hc=>?_)
 ·rw [sumT,if_pos (by omega)] at k;exact k
 ·rw [sumT,if_neg (by omega)] at k;rw [show (a+b) % 18446744073709551616=a+b by omega];exact k
theorem f140 {lo hi a b:Int} {w:World} {K:Value→World→Prop} (h1 : -1000000000≤lo∧lo≤1000000000) (h2 : -1000000000≤hi∧hi≤1000000000) (h3 : -1000000000≤a∧a≤1000000000) (h4 : -1000000000≤b∧b≤1000000000)
  (k:∀ w',Bl w w'→K (.agg #[.int .i64 (lo - a+b),.int .i64 (hi - a+b)]) w'):zaj Tryz.prog 140 #[.agg #[.int .i64 lo,.int .i64 hi],.int .i64 a,.int .i64 b] w K:=by
 refine call140 _ _ _ _ _ _ ?_
 unfold F140
 have hh:=Hp.start w
 with_reducible repeat' first|refine kk_ ?_|refine nx hh ?_|refine allW fun w' hh=>?_|exact sd_|refine ai ?_ ?_|exact vr|fail
 first|rw [i64w (n:=lo - a) (by omega) (by omega),i64w (n:=lo - a+b) (by omega) (by omega),i64w (n:=hi - a) (by omega) (by omega),i64w (n:=hi - a+b) (by omega) (by omega)]|(dsimp only;rw [i64w (n:=lo - a) (by omega) (by omega),i64w (n:=lo - a+b) (by omega) (by omega),i64w (n:=hi - a) (by omega) (by omega),i64w (n:=hi - a+b) (by omega) (by omega)])
 exact k _ hh.done
theorem f75 {p:Option Addr} {n c:Nat} {l:List UInt8} {w:World} {K:Value→World→Prop} (hs:Sees w 1 p n c (u8s l)) (hln:l.length≤1073741824)
  (k:∀ B b w',Bl w w'→w.heap.size≤b→b < B→Own w' B #[.slice (some ⟨b,0,none⟩) n n] 22→Own w' b (u8s l).toArray 5→K (.func (.func 115) #[] #[.pointer (some ⟨B,0,none⟩)]) w'):zaj Tryz.prog 75 #[.slice p n c] w K:=by
 refine call75 _ _ _ _ _ ?_
 unfold F75
 have hn:=hs.bytes
 have hh:=Hp.see hs (Hp.start w) (by simp)
 refine makeN (n:=n) (z:=.int .u8 0) hh (by with_unfolding_all rfl) (by with_unfolding_all rfl) (by with_unfolding_all rfl) (by omega) (by decide) fun w3 hh hb3=>?_
 have hlt:w.heap.size < w3.heap.size:=(hh.all _ (GetOwn.pos (b:=w.heap.size)).mem).lt (k:=w.heap.size) rfl
 with_reducible repeat' first|refine kk_ ?_|refine nx hh ?_|refine allW fun w' hh=>?_|exact sd_|refine ai ?_ ?_|exact vr|fail
 refine copyN hh (SetOwn.pos) (hh.sees (SeeIn.pos (p:=p) (n:=n) (c:=c))) (by with_unfolding_all rfl) (by with_unfolding_all rfl) (by simp) (u8s_one _) fun w4 hh _=>?_
 have hcell:(u8s l).take n++((List.replicate n (Value.int .u8 0)).toArray).toList.drop (min n n)=u8s l:=by
  rw [List.take_of_length_le (by rw [u8s_len];omega)];simp
 rw [hcell] at hh
 refine kI ?_
 exact k _ _ _ hh.done (Nat.le_refl _) hlt (hh.all _ (GetOwn.pos (b:=w3.heap.size)).mem) (hh.all _ (GetOwn.pos (b:=w.heap.size)).mem)
def wrongE (e at_:Int):List PanicEntry:=[{ v:=.iface 112 (.agg #[.int .i64 e,.int .i64 at_]),recovered:=false }]
theorem f44 {r:Option Addr} {b:Bool} {e at_:Int} {w:World} {K:Value→World→Prop} {X:List PanicEntry→World→Prop} (k:b=true→K (.tuple #[]) w) (x:b=false→X (wrongE e at_) w) :
  zbt Tryz.prog 44 #[.pointer r,.bool b,.int .i64 e,.int .i64 at_] w K X:=by
 refine call44 _ _ _ _ _ _ _ ?_
 unfold F44
 cases b with
 | false=>exact x rfl
 | true=>exact k rfl
end Go.Proofs.YtlfhngoeecjfpaaGreatDoor.B
namespace Go.Proofs.YtlfhngoeecjfpaaGreatDoor.Sh
open Go Go.RowKit
def mines (L:List Ent):Nat→Prop:=fun k=>∃ x∈L,x.mine k
section
variable {P:Program} {Z:Nat→Prop} {w0 w:World} {L M:List Ent}
theorem Hp.sub0 (h:Hp Z w0 w L):Hp (mines L) w w L :=
 ⟨Ext.refl w,h.all,h.apart,fun x hx k hk=>.inl ⟨x,hx,hk⟩⟩
theorem Hp.mines_may (h:Hp Z w0 w L) {k:Nat} (hk:mines L k):Z k∨w0.heap.size≤k:=let ⟨x,hx,hk⟩:=hk;h.may x hx k hk
theorem Hp.back0 {w':World} (h:Hp Z w0 w L) (h':Hp (mines L) w w' M):Hp Z w0 w' M :=
 ⟨h.ext.trans h'.ext fun k hk hm=>by
   rcases h.mines_may hm with h1|h1
   ·exact h1
   ·omega,h'.all,h'.apart,fun x hx k hk=>by
   rcases h'.may x hx k hk with h1|h1
   ·exact h.mines_may h1
   ·exact .inr (Nat.le_trans h.ext.size h1)⟩
theorem Hp.back {w':World} {L2:List Ent} (h:Hp Z w0 w (L++L2)) (h':Hp (mines L) w w' M) (hf:∀ x∈M,∀ k,x.foot k→(∃ y∈L,y.foot k)∨w.heap.size≤k):Hp Z w0 w' (M++L2):=by
 obtain ⟨p1,p2,p3⟩:=List.pairwise_append.1 h.apart
 have hm:∀ k,mines L k→Z k∨w0.heap.size≤k:=fun k ⟨x,hx,hk⟩=>h.may x (List.mem_append_left _ hx) k hk
 refine ⟨h.ext.trans h'.ext fun k hk hq=>?_,fun x hx=>?_,List.pairwise_append.2 ⟨h'.apart,p2,fun x hx y hy k=>⟨fun h1 h2=>?_,fun h1 h2=>?_⟩⟩,fun x hx k hk=>?_⟩
 ·rcases hm k hq with h1|h1
  ·exact h1
  ·omega
 ·rcases List.mem_append.1 hx with hx|hx
  ·exact h'.all x hx
  ·exact (h.all x (List.mem_append_right _ hx)).ext h'.ext fun i hi ⟨y,hy,hm⟩=>(p3 y hy x hx i).1 hm hi
 ·rcases h'.may x hx k h1 with ⟨z,hz,hzk⟩|hk
  ·exact (p3 z hz y hy k).1 hzk h2
  ·exact absurd ((h.all y (List.mem_append_right _ hy)).lt h2) (by omega)
 ·rcases hf x hx k h1 with ⟨z,hz,hzk⟩|hk
  ·exact (p3 z hz y hy k).2 hzk h2
  ·exact absurd ((h.all y (List.mem_append_right _ hy)).lt (Ent.foot_of_mine h2)) (by omega)
 ·rcases List.mem_append.1 hx with hx|hx
  ·rcases h'.may x hx k hk with h1|h1
   ·exact hm k h1
   ·exact .inr (Nat.le_trans h.ext.size h1)
  ·exact h.may x (List.mem_append_right _ hx) k hk
theorem Hp.sublist (h:Hp Z w0 w L) (hs:M.Sublist L):Hp Z w0 w M :=
 ⟨h.ext,fun x hx=>h.all x (hs.subset hx),h.apart.sublist hs,fun x hx=>h.may x (hs.subset hx)⟩
theorem Hp.perm (h:Hp Z w0 w L) (hs:L.Perm M):Hp Z w0 w M :=
 ⟨h.ext,fun x hx=>h.all x (hs.symm.subset hx),hs.pairwise h.apart fun h=>h.symm,fun x hx=>h.may x (hs.symm.subset hx)⟩
theorem Hp.wider {Z':Nat→Prop} (h:Hp Z w0 w L) (hz:∀ k,Z k→Z' k):Hp Z' w0 w L :=
 ⟨h.ext.mono fun k _ hk=>hz k hk,h.all,h.apart,fun x hx k hk=>(h.may x hx k hk).imp (hz k) id⟩
theorem Hp.know {x:Ent} (h:Hp Z w0 w L) (hx:x.at_ w) (hm:∀ k,¬ x.mine k) (ha:∀ y∈L,∀ k,y.mine k→¬ x.foot k):Hp Z w0 w (x::L) :=
 ⟨h.ext,fun y hy=>by rcases List.mem_cons.1 hy with h1|h1;subst h1;exact hx;exact h.all y h1,
  List.pairwise_cons.2 ⟨fun y hy k=>⟨fun h1=>(hm k h1).elim,fun h1 h2=>ha y hy k h2 h1⟩,h.apart⟩,
  fun y hy k hk=>by rcases List.mem_cons.1 hy with h1|h1;subst h1;exact (hm k hk).elim;exact h.may y h1 k hk⟩
theorem Hp.objE {b:Nat} {o:Obj} (h:Hp Z w0 w L) (hm:Pos L (.obj b o) (.obj b o) L):w.heap[b]? = some o:=h.all (.obj b o) hm.mem
theorem Hp.putE {b:Nat} {o o':Obj} (h:Hp Z w0 w L) (hm:Pos L (.obj b o) (.obj b o') M):Hp Z w0 (w.putObj b o') M:=by
 have ho:w.heap[b]? = some o:=h.all (.obj b o) hm.mem
 have hb:b < w.heap.size:=by
  by_cases hb:b < w.heap.size
  ·exact hb
  ·rw [Array.getElem?_eq_none (Nat.le_of_not_lt hb)] at ho;cases ho
 exact h.turn hm ⟨rfl,rfl,rfl,by simp [World.putObj],fun k hk hb=>World.putObj_heap_other hb⟩ (World.putObj_heap_same hb) fun i hi=>.inl hi
end
class GetObj (L:List Ent) (b:Nat) (o:outParam Obj):Prop where
 pos:Pos L (.obj b o) (.obj b o) L
instance (priority:=high) objHere {L:List Ent} {b:Nat} {o:Obj}:GetObj (.obj b o::L) b o:=⟨.here⟩
instance (priority:=low) objThere {L:List Ent} {x:Ent} {b:Nat} {o:Obj} [h:GetObj L b o]:GetObj (x::L) b o:=⟨.there h.pos⟩
class SetObj (L:List Ent) (b:Nat) (o':Obj) (o:outParam Obj) (M:outParam (List Ent)):Prop where
 pos:Pos L (.obj b o) (.obj b o') M
instance (priority:=high) setObjHere {L:List Ent} {b:Nat} {o o':Obj}:SetObj (.obj b o::L) b o' o (.obj b o'::L):=⟨.here⟩
instance (priority:=low) setObjThere {L M:List Ent} {x:Ent} {b:Nat} {o o':Obj} [h:SetObj L b o' o M]:SetObj (x::L) b o' o (x::M):=⟨.there h.pos⟩
section
variable {P:Program} {Z:Nat→Prop} {w0 w:World} {L M:List Ent}
theorem wReady {l:Nat} {r:Loop} {o:Obj} {p:Prop} (h:Hp Z w0 w L) [hm:GetObj L l o] (ho:o=zbs r .ready none) (k:p):readyA w l r p:=by
 subst ho;exact ⟨h.objE hm.pos,k⟩
theorem wPut {l:Nat} {o o':Obj} {F:World→Prop} (h:Hp Z w0 w L) [hm:SetObj L l o' o M] (k:∀ w',Hp Z w0 w' M→F w'):putK w l o' F:=k _ (h.putE hm.pos)
theorem wStop {l:Nat} {r:Loop} {o:Obj} {F:Value→World→Prop} (h:Hp Z w0 w L) [hm:SetObj L l (zbs r .ready none) o M] (ho:o=zbs r .busy none) (k:∀ w',Hp Z w0 w' M→F (.bool true) w'):stopA l r none F w:=by
 subst ho;exact ⟨h.all _ hm.pos.mem,k _ (h.putE hm.pos)⟩
theorem wEnd {l:Nat} {r:Loop} {o:Obj} {st:LoopState} {pe:Option Code} {F:Option Code→World→Prop} (h:Hp Z w0 w L) [hm:SetObj L l (zbs r .exhausted pe) o M] (ho:o=zbs r st pe) (hs:st≠.busy) (k:∀ w',Hp Z w0 w' M→F pe w'):endA l r w F:=by
 subst ho;exact ⟨st,pe,h.all _ hm.pos.mem,hs,k _ (h.putE hm.pos)⟩
theorem wMark {D:Nat} {o:Obj} {as_:Array Value} {F:World→Prop} (h:Hp Z w0 w L) [hm:SetObj L D (.deferred none) o M] (ho:o = .deferred (some [])) (k:∀ w',Hp Z w0 w' M→F w'):zcx [{ target:=.collected D,args:=as_ }] w F:=by
 subst ho
 exact ⟨h.all _ hm.pos.mem,k _ (h.putE hm.pos)⟩
theorem Hp.mark (h:Hp Z w0 w L) (r:Loop):Hp Z w0 ((w.alloc (.deferred (some []))).alloc (zbs r .ready none)) (.obj (w.heap.size+1) (zbs r .ready none)::.obj w.heap.size (.deferred (some []))::L):=by
 have h1:Hp Z w0 (w.alloc (.deferred (some []))) (.obj w.heap.size (.deferred (some []))::L) :=
  h.add (x:=.obj w.heap.size (.deferred (some []))) ((Bl.refl w).alloc _) (by show (w.heap.push _)[w.heap.size]? = _;simp) fun i hi=>Nat.le_of_eq hi.symm
 have hsz:=size_alloc w (.deferred (some []))
 have:=h1.add (x:=.obj (w.heap.size+1) (zbs r .ready none)) ((Bl.refl _).alloc (zbs r .ready none)) (by
  show ((w.alloc (.deferred (some []))).heap.push _)[w.heap.size+1]? = _
  rw [← hsz];exact Array.getElem?_push_size) fun i hi=>by rw [hsz];exact Nat.le_of_eq hi.symm
 exact this
theorem ixSl {t e z:Nat} {a:Addr} {n c:Nat} {k:IntKind} {i:Int} {F:Value→World→Prop} (ht:P.underlying t=some (.slice e)) (hz:(P.info? e).map (·.size)=some z) (h0:0≤i) (h1:i < (n:Int))
  (kk:F (.pointer (some (a.add (i.toNat * z)))) w):semK P (Instr.indexAt t (.slice (some a) n c) (.int k i)) w F:=ixS ht hz h0 h1 kk
theorem ixSee {t e z n c:Nat} {p:Option Addr} {xs:List Value} {k:IntKind} {i:Int} {F:Value→World→Prop} (hs:Sees w z p n c xs) (hz0:0 < z) (ht:P.underlying t=some (.slice e)) (hz:(P.info? e).map (·.size)=some z) (h0:0≤i) (h1:i < (n:Int))
  (kk:∀ ad:Addr,(∀ (j:Nat) (u:Value),j < z→xs[i.toNat * z+j]? = some u→w.cell? (ad.add j)=some u)→F (.pointer (some ad)) w):semK P (Instr.indexAt t (.slice p n c) (.int k i)) w F:=by
 obtain ⟨a,rfl,_⟩:=hs.addr hz0 (by omega)
 refine ixS ht hz h0 h1 (kk _ fun j u hj hu=>?_)
 rw [addAdd]
 exact hs.get rfl hu
theorem rdSee {t e n c:Nat} {p:Option Addr} {xs:List Value} {k:IntKind} {i:Int} {F:Value→World→Prop} (hs:Sees w 1 p n c xs) (ht:P.underlying t=some (.slice e)) (hz:(P.info? e).map (·.size)=some 1) (h0:0≤i) (h1:i < (n:Int))
  (kk:∀ u,xs[i.toNat]? = some u→F u w):semK P (Instr.indexAt t (.slice p n c) (.int k i)) w fun v1 w1=>asA v1 fun ad=>ldK P w1 ad fun v2=>F v2 w1:=by
 have hl:=hs.len
 have hi:i.toNat < xs.length:=by omega
 refine ixSee hs (by decide) ht hz h0 h1 fun ad had=>?_
 have:=had 0 _ (by decide) (by rw [Nat.mul_one,Nat.add_zero];exact List.getElem?_eq_getElem hi)
 rw [add_zero] at this
 exact ld this (kk _ (List.getElem?_eq_getElem hi))
theorem wIxSt {t e b n c:Nat} {cs:List Value} {t' ty:TypeId} {v:Value} {k:IntKind} {i:Int} {F:World→Prop} (h:Hp Z w0 w L) (hm:Pos L (.own b cs.toArray t') (.own b (cs.set i.toNat v).toArray t') M) (hn:n≤cs.length) (ht:P.underlying t=some (.slice e)) (hz:(P.info? e).map (·.size)=some 1)
  (h0:0≤i) (h1:i < (n:Int)) (hz':(P.info? ty).map (·.size)=some 1) (h1':v.oneCell'=true) (hc:v.cells=#[v]) (kk:∀ w',Hp Z w0 w' M→Ext (· = b) w w'→F w') :
  semK P (Instr.indexAt t (.slice (some ⟨b,0,none⟩) n c) (.int k i)) w fun v1 w1=>asA v1 fun ad=>semU P (Instr.storeAt ty (.pointer (some ad)) v) w1 F:=by
 refine ixS ht hz h0 h1 ?_
 rw [asA_ptr,Nat.mul_one,addG]
 have:cs.toArray.setIfInBounds i.toNat v=(cs.set i.toNat v).toArray:=by simp
 exact stH1 (i:=i.toNat) (t:=t') h (M:=M) (cs:=cs.toArray) (by rw [this];exact hm) (by simp;omega) hz' h1' hc kk
end
theorem Pos.perm {L M:List Ent} {x y:Ent} (h:Pos L x y M):∃ R,L.Perm (x::R)∧M.Perm (y::R):=by
 induction h with
 | @here L x y=>exact ⟨L,.refl _,.refl _⟩
 | @there L M x y z h ih =>
  obtain ⟨R,h1,h2⟩:=ih
  exact ⟨z::R,(h1.cons z).trans (.swap x z R),(h2.cons z).trans (.swap y z R)⟩
section
variable {P:Program} {Z:Nat→Prop} {w0 w:World} {L M:List Ent}
theorem Hp.merge {s x y:Ent} (h:Hp Z w0 w (s::L)) (hp:Pos L x y M) (hy:y.at_ w) (hm:∀ k,¬ y.mine k) (hf:∀ k,y.foot k→x.foot k∨s.foot k):Hp Z w0 w M:=by
 obtain ⟨R,h1,h2⟩:=hp.perm
 have h3:Hp Z w0 w (s::x::R):=h.perm (h1.cons s)
 have h4:Hp Z w0 w R:=h3.sublist ((List.sublist_cons_self x R).trans (List.sublist_cons_self s _))
 refine Hp.perm ?_ h2.symm
 refine h4.know hy hm fun z hz k hk hq=>?_
 have ha:=h3.apart
 rw [List.pairwise_cons,List.pairwise_cons] at ha
 rcases hf k hq with h|h
 ·exact (ha.2.1 z hz k).2 h hk
 ·exact (ha.1 z (List.mem_cons_of_mem _ hz) k).2 h hk
abbrev pureE (p:Prop):Ent:=.fact zan fun _=>p
theorem Hp.pureI {p:Prop} (hp:p) (h:Hp Z w0 w L):Hp Z w0 w (pureE p::L) :=
 h.know (x:=pureE p) ⟨hp,fun k hk=>hk.elim,fun _ _ h _=>h⟩ (fun k hk=>hk) fun y hy k hk hf=>hf
theorem Hp.pureO {p:Prop} (h:Hp Z w0 w L) (hm:pureE p∈L):p:=(h.all _ hm:On zan (fun _=>p) w).holds
theorem Hp.tail {x:Ent} (h:Hp Z w0 w (x::L)):Hp Z w0 w L:=h.sublist (List.sublist_cons_self x L)
theorem Hp.swap {x y:Ent} (h:Hp Z w0 w (x::y::L)):Hp Z w0 w (y::x::L):=h.perm (.swap y x L)
theorem Hp.own {b:Nat} {cs:Array Value} {t:TypeId} (h:Hp Z w0 w L) (hm:Ent.own b cs t∈L):Own w b cs t:=h.all (.own b cs t) hm
theorem Hp.row {z n c:Nat} {p:Option Addr} {e:TypeId} {xs:List Value} (h:Hp Z w0 w L) (hm:Ent.row z p n c e xs∈L):RowZ w z (.slice p n c) e n xs:=h.all (.row z p n c e xs) hm
theorem Hp.on {S:Nat→Prop} {A:World→Prop} (h:Hp Z w0 w L) (hm:Ent.fact S A∈L):On S A w:=h.all (.fact S A) hm
theorem Hp.our {S:Nat→Prop} {A:World→Prop} (h:Hp Z w0 w L) (hm:Ent.ours S A∈L):On S A w:=h.all (.ours S A) hm
theorem Hp.rowNew {z n c:Nat} {p:Option Addr} {e:TypeId} {xs:List Value} (h:Hp zan w0 w L) (hm:Ent.row z p n c e xs∈L):∀ g,Blk (.slice p n c) g→w0.heap.size≤g:=fun g hg=>by
 rcases h.may _ hm g hg with h1|h1
 ·exact h1.elim
 ·exact h1
end
section
variable {P:Program} {Z:Nat→Prop} {w0 w:World} {L M:List Ent}
theorem Hp.adds {w':World} (h:Hp Z w0 w L) (k:Bl w w') (hx:∀ x∈M,x.at_ w') (hf:∀ x∈M,∀ i,x.foot i→w.heap.size≤i) (hp:M.Pairwise Apart):Hp Z w0 w' (M++L):=by
 have h':=h.bl k
 refine ⟨h'.ext,fun y hy=>?_,List.pairwise_append.2 ⟨hp,h.apart,fun x hx y hy i=>?_⟩,fun y hy i hi=>?_⟩
 ·rcases List.mem_append.1 hy with h1|h1
  ·exact hx y h1
  ·exact h'.all y h1
 ·have:=fun hi=>(h.all y hy).lt (k:=i) hi
  exact ⟨fun h1 h2=>absurd (this h2) (by have:=hf x hx i (Ent.foot_of_mine h1);omega),fun h1 h2=>absurd (this (Ent.foot_of_mine h2)) (by have:=hf x hx i h1;omega)⟩
 ·rcases List.mem_append.1 hy with h1|h1
  ·exact .inr (Nat.le_trans h.ext.size (hf y h1 i (Ent.foot_of_mine hi)))
  ·exact h.may y h1 i hi
theorem apartOwn {b b':Nat} {cs cs':Array Value} {t t':TypeId} (h:b≠b'):Apart (.own b cs t) (.own b' cs' t'):=fun k=>⟨fun h1 h2=>h (h1.symm.trans h2),fun h1 h2=>h (h1.symm.trans h2)⟩
theorem Hp.take {w':World} (h:Hp Z w0 w L) (h':Hp zan w w' M) (hf:∀ x∈M,∀ i,x.foot i→w.heap.size≤i):Hp Z w0 w' (M++L):=h.adds h'.done h'.all hf h'.apart
end
class OwnM (L:List Ent) (b:Nat) (cs:outParam (Array Value)) (t:outParam TypeId) (M:outParam (Ent→List Ent)):Prop where
 ex:∃ R,L.Perm (.own b cs t::R)∧∀ y,(M y).Perm (y::R)
instance (priority:=high) ownMHere {L:List Ent} {b:Nat} {cs:Array Value} {t:TypeId}:OwnM (.own b cs t::L) b cs t (fun y=>y::L):=⟨L,.refl _,fun _=>.refl _⟩
instance (priority:=low) ownMThere {L:List Ent} {x:Ent} {b:Nat} {cs:Array Value} {t:TypeId} {M:Ent→List Ent} [h:OwnM L b cs t M]:OwnM (x::L) b cs t (fun y=>x::M y) :=
 let ⟨R,h1,h2⟩:=h.ex
 ⟨x::R,(h1.cons x).trans (.swap _ x R),fun y=>((h2 y).cons x).trans (.swap y x R)⟩
theorem OwnM.two {L:List Ent} {b:Nat} {cs:Array Value} {t:TypeId} {M:Ent→List Ent} (h:OwnM L b cs t M) {s:Ent} (hs:s∈L) (hne:s≠.own b cs t):∃ R,L.Perm (.own b cs t::s::R)∧∀ y,(M y).Perm (y::s::R):=by
 obtain ⟨R,h1,h2⟩:=h.ex
 have hR:s∈R:=by
  rcases List.mem_cons.1 (h1.subset hs) with h|h
  ·exact absurd h hne
  ·exact h
 obtain ⟨A,B,rfl⟩:=List.append_of_mem hR
 exact ⟨A++B,h1.trans (List.perm_middle.cons _),fun y=>(h2 y).trans (List.perm_middle.cons y)⟩
inductive Pick:List Ent→Ent→List Ent→Prop
 | here {L x}:Pick (x::L) x L
 | there {L R x y}:Pick L x R→Pick (y::L) x (y::R)
theorem Pick.perm {L R:List Ent} {x:Ent} (h:Pick L x R):L.Perm (x::R):=by
 induction h with
 | here=>exact .refl _
 | there h ih=>exact (ih.cons _).trans (.swap _ _ _)
theorem Hp.front {Z:Nat→Prop} {w0 w:World} {L R:List Ent} {x:Ent} (h:Hp Z w0 w L) (hp:Pick L x R):Hp Z w0 w (x::R):=h.perm hp.perm
section
variable {P:Program} {Z:Nat→Prop} {w0 w:World} {L M:List Ent}
theorem Hp.start1 {pb:Nat} {cs:Array Value} {t:TypeId} (h:Own w pb cs t):Hp (fun k=>k=pb) w w [.own pb cs t] :=
 ⟨Ext.refl w,fun x hx=>by simp only [List.mem_singleton] at hx;subst hx;exact h,List.pairwise_singleton _ _,fun x hx k hk=>by simp only [List.mem_singleton] at hx;subst hx;exact .inl hk⟩
theorem Hp.done1 {pb:Nat} {cs:Array Value} {t:TypeId} (h:Hp (fun k=>k=pb) w0 w L) (ho:Own w0 pb cs t) (hm:Ent.own pb cs t∈L):Bl w0 w :=
 ⟨h.ext.os,h.ext.tape,h.ext.output,h.ext.size,fun k hk=>by
  by_cases hp:k=pb
  ·subst hp
   exact (h.own hm:w.heap[k]? = _).trans (ho:w0.heap[k]? = _).symm
  ·exact h.ext.block k hk hp⟩
end
end Go.Proofs.YtlfhngoeecjfpaaGreatDoor.Sh
namespace Go.Proofs.YtlfhngoeecjfpaaGreatDoor.B
open Go Go.RowKit Go.Proofs.YtlfhngoeecjfpaaGreatDoor.Sh Go.Proofs.YtlfhngoeecjfpaaGreatDoor.W
theorem nxA_mono {P:Program} {F G:Value→World→Prop} (hk:∀ v w',F v w'→G v w') (x:Next) (w':World) (hx:nxA P F x w'):nxA P G x w':=by
 cases x with
 | value v=>exact hk _ _ hx
 | enter f a=>exact zaj.mono hx hk
 | round l f t a b=>exact RoundIn.mono hx fun e w' ⟨v,hv,hK⟩=>⟨v,hv,hk _ _ hK⟩
 | _=>exact hx
theorem zdf {P:Program} {f:Value} {args:Array Value} {w:World} {F G:Value→World→Prop} (hk:∀ v w',F v w'→G v w') (h:zau P f args w F):zau P f args w G:=by
 cases f with
 | func fn first cap =>
  have h:(invoke (.fn fn cap) (first++args)).wp P (nxA P F) (fun _ _=>False) w:=h
  show (invoke (.fn fn cap) (first++args)).wp P (nxA P G) (fun _ _=>False) w
  rw [Sem.wp_iff_run] at h ⊢
  generalize Sem.run P (invoke (.fn fn cap) (first++args)) w=r at h ⊢
  cases r with
  | ok x w'=>exact nxA_mono hk _ _ h
  | _=>exact h
 | _=>exact h
theorem readT_err {l:List UInt8} {at_ e:Int} (h:zcl l at_ = .error e):e=1∨e=60∨e=61:=by
 unfold zcl at h
 repeat' split at h
 all_goals cases h
 all_goals simp
theorem zdb {l:List UInt8} {at_:Int} {i:Ins} (h:zcl l at_ = .ok i):0≤at_∧at_ < l.length∧i.at_=at_∧at_ < i.next∧i.next≤l.length∧i.next=at_+1+i.imm.length∧0≤i.code∧i.code < 256∧(opT i.code).isSome=true∧i.imm.length≤600:=by
 unfold zcl at h
 split at h
 ·cases h
 split at h
 ·cases h
 cases ho:opT ((l.getD at_.toNat 0).toNat:Int) with
 | none=>rw [ho] at h;cases h
 | some r =>
  rw [ho] at h
  simp only at h
  split at h
  ·cases h
  split at h
  ·cases h
  rename_i h1 h2 h3 h4
  have h3':(lenT r.imm (l.drop (at_.toNat+1))).2=true:=by simpa using h3
  have h0:=lenT_nonneg (l:=l.drop (at_.toNat+1)) ho (opT_imm ho).1 h3'
  have h5:(lenT r.imm (l.drop (at_.toNat+1))).1≤600:=by
   have:=(opT_imm ho).2
   unfold lenT
   split
   ·split
    ·simp
    ·rename_i b _ _
     have:=b.toNat_lt
     simp;omega
   ·simp;omega
  have hb:=(l.getD at_.toNat 0).toNat_lt
  generalize (lenT r.imm (l.drop (at_.toNat+1))).1=N at *
  simp only [Except.ok.injEq] at h
  subst h
  have hl:((l.drop (at_.toNat+1)).take N.toNat).length=N.toNat:=by rw [List.length_take,List.length_drop];omega
  refine ⟨by omega,by omega,rfl,by simp only;omega,by simp only;omega,by simp only [hl];omega,by simp only;omega,by simp only;omega,by simp only [ho];rfl,by simp only [hl];omega⟩
def allF (l:List UInt8):Nat→Int→List Ins
 | 0,_=>[]
 | f+1,a=>match zcl l a with
  | .ok i=>i::allF l f i.next
  | .error _=>[]
def allT (l:List UInt8):List Ins:=allF l (l.length+1) 0
def insV (i:Ins) (b m:Nat):Value:=.agg #[.int .i64 i.at_,.int .i64 i.code,.slice (some ⟨b,0,none⟩) m m,.int .i64 i.next]
theorem mines_see {z:Nat} {p:Option Addr} {n c:Nat} {xs:List Value} {L:List Ent}:∀ k,mines (.see z p n c xs::L) k→mines L k:=by
 rintro k ⟨x,hx,hk⟩
 rcases List.mem_cons.1 hx with h1|h1
 ·subst h1;exact hk.elim
 ·exact ⟨x,h1,hk⟩
theorem mines_cons {x:Ent} {L:List Ent}:∀ k,mines L k→mines (x::L) k:=fun k ⟨y,hy,hk⟩=>⟨y,List.mem_cons_of_mem _ hy,hk⟩
section
variable {σ:Type} {l:List UInt8} {n B b:Nat} {Y:Value} {w0:World} {Z:Nat→Prop} {K:Value→World→Prop}
theorem f115 (hln:l.length≤1073741824) (hn:n=l.length) (L LS:List Ins→σ→List Ent) (PS:List Ins→Ins→σ→Prop)
  (hin:∀ d s,Ent.own B #[.slice (some ⟨b,0,none⟩) n n] 22∈L d s∧Ent.own b (u8s l).toArray 5∈L d s)
  (hy:∀ d i rest s w bi m,allT l=d++i::rest→m=i.imm.length→w0.heap.size≤bi→Hp (mines (L d s)) w w (.see 1 (some ⟨bi,0,none⟩) m m (u8s i.imm)::L d s) →
   zau Tryz.prog Y #[insV i bi m] w fun v w'=>(v = .bool true∧∃ s',Hp (mines (L d s)) w w' (L (d++[i]) s'))∨(v = .bool false∧∃ s',PS d i s'∧Hp (mines (L d s)) w w' (LS (d++[i]) s')))
  {w:World} {s0:σ} (h0:Hp Z w0 w (L [] s0)) (kk:∀ v w',((∃ s,Hp Z w0 w' (L (allT l) s))∨(∃ d i rest s,allT l=d++i::rest∧PS d i s∧Hp Z w0 w' (LS (d++[i]) s)))→K v w') :
  zaj Tryz.prog 115 #[Y,.pointer (some ⟨B,0,none⟩)] w K:=by
 have loop:∀ (f:Nat) (d:List Ins) (a:Int) (s:σ) (w:World),allT l=d++allF l f a→0≤a→a≤l.length→(l.length:Int)+1≤a+f→Hp Z w0 w (L d s)→L115_0 K f Y ⟨B,0,none⟩ a w:=by
  intro f
  induction f with
  | zero=>intro d a s w _ _ h1 h2;omega
  | succ f loop =>
   intro d a s w hall h0 h1 h2 hh
   unfold L115_0
   have hh0:=hh
   have ho:=hh.all _ (hin d s).1
   have hob:=hh.all _ (hin d s).2
   refine ldO (i:=0) ho rfl (kL ?_)
   refine f39 (Own.sees hob (by rw [u8s_len];exact hn.symm)) hln (fun e he w2 hb2=>?_) (fun i hi bi m w2 hb2 hsz hm hsee=>?_)
   ·replace hh:=hh.bl hb2
    unfold errV
    have hne:=readT_err he
    with_reducible repeat' first|refine kk_ ?_|refine nx hh ?_|refine allW fun w' hh=>?_|exact sd_|refine ai ?_ ?_|exact vr|fail
    have:(e != 0)=true:=by rcases hne with h|h|h <;> subst h <;> rfl
    first|rw [this]|(dsimp only;rw [this])
    refine ifBt ?_
    refine kk _ _ (.inl ⟨s,?_⟩)
    have ha:allT l=d:=by rw [hall,allF,he];simp
    first|rw [ha]|(dsimp only;rw [ha])
    exact hpTail hh
   ·have hfr:∀ k,mines (L d s) k→k < w.heap.size:=fun k ⟨x,hx,hk⟩=>(hh.all x hx).lt (Ent.foot_of_mine hk)
    have hh1:=Hp.addSee hh hb2 hsz hsee
    clear hh
    have hh:=hh1
    with_reducible repeat' first|refine kk_ ?_|refine nx hh ?_|refine allW fun w' hh=>?_|exact sd_|refine ai ?_ ?_|exact vr|fail
    have:((0:Int) != 0)=false:=rfl
    first|rw [this]|(dsimp only;rw [this])
    refine ifBf ?_
    with_reducible repeat' first|refine kk_ ?_|refine nx hh ?_|refine allW fun w' hh=>?_|exact sd_|refine ai ?_ ?_|exact vr|fail
    have hok:=zdb hi
    have hall2:allT l=d++i::allF l f i.next:=by rw [hall,allF,hi]
    have hA:=hh.all _ (GetOwn.pos (b:=w2.heap.size)).mem
    have hsz2:=hb2.size
    refine zdf ?_ (hy d i (allF l f i.next) s _ bi m hall2 hm (Nat.le_trans hh0.ext.size hsz) ((hpTail hh).sub0.wider mines_see))
    rintro v w4 (⟨rfl,s',h4⟩|⟨rfl,s',hp,h4⟩)
    ·refine kB (zcj ?_)
     refine ldO (i:=3) (Own.ext hA h4.ext fun hq=>by have:=hfr _ hq;omega) rfl (kI ?_)
     have h5:=(hpTail hh).back0 (h4.wider mines_cons)
     first
      | exact loop (d++[i]) i.next s' _ (by rw [hall2];simp) (by omega) (by omega) (by omega) h5
      | exact ⟨_,loop f (d++[i]) i.next s' _ (by rw [hall2];simp) (by omega) (by omega) (by omega) h5⟩
    ·refine kB (zco ?_)
     exact kk _ _ (.inr ⟨d,i,_,s',hall2,hp,(hpTail hh).back0 (h4.wider mines_cons)⟩)
 refine call115 _ _ _ _ ?_
 unfold F115
 obtain ⟨f,hf⟩:∃ f,f=l.length:=⟨_,rfl⟩
 have hall:allT l=[]++allF l (f+1) 0:=by rw [hf];rfl
 have hh:=h0
 obtain ⟨d,hd⟩:∃ d:List Ins,d=[]:=⟨_,rfl⟩
 obtain ⟨s,hs⟩:∃ s:σ,s=s0:=⟨_,rfl⟩
 rw [← hd,← hs] at hh
 rw [← hd] at hall
 clear hd hs
 have hh0:=hh
 have ho:=hh.all _ (hin d s).1
 have hob:=hh.all _ (hin d s).2
 refine ldO (i:=0) ho rfl (kL ?_)
 refine f39 (Own.sees hob (by rw [u8s_len];exact hn.symm)) hln (fun e he w2 hb2=>?_) (fun i hi bi m w2 hb2 hsz hm hsee=>?_)
 ·replace hh:=hh.bl hb2
  unfold errV
  have hne:=readT_err he
  with_reducible repeat' first|refine kk_ ?_|refine nx hh ?_|refine allW fun w' hh=>?_|exact sd_|refine ai ?_ ?_|exact vr|fail
  have:(e != 0)=true:=by rcases hne with h|h|h <;> subst h <;> rfl
  first|rw [this]|(dsimp only;rw [this])
  refine ifBt ?_
  refine kk _ _ (.inl ⟨s,?_⟩)
  have ha:allT l=d:=by rw [hall,allF,he];simp
  first|rw [ha]|(dsimp only;rw [ha])
  exact hpTail hh
 ·have hfr:∀ k,mines (L d s) k→k < w.heap.size:=fun k ⟨x,hx,hk⟩=>(hh.all x hx).lt (Ent.foot_of_mine hk)
  have hh1:=Hp.addSee hh hb2 hsz hsee
  clear hh
  have hh:=hh1
  with_reducible repeat' first|refine kk_ ?_|refine nx hh ?_|refine allW fun w' hh=>?_|exact sd_|refine ai ?_ ?_|exact vr|fail
  have:((0:Int) != 0)=false:=rfl
  first|rw [this]|(dsimp only;rw [this])
  refine ifBf ?_
  with_reducible repeat' first|refine kk_ ?_|refine nx hh ?_|refine allW fun w' hh=>?_|exact sd_|refine ai ?_ ?_|exact vr|fail
  have hok:=zdb hi
  have hall2:allT l=d++i::allF l f i.next:=by rw [hall,allF,hi]
  have hA:=hh.all _ (GetOwn.pos (b:=w2.heap.size)).mem
  have hsz2:=hb2.size
  refine zdf ?_ (hy d i (allF l f i.next) s _ bi m hall2 hm (Nat.le_trans hh0.ext.size hsz) ((hpTail hh).sub0.wider mines_see))
  rintro v w4 (⟨rfl,s',h4⟩|⟨rfl,s',hp,h4⟩)
  ·refine kB (zcj ?_)
   refine ldO (i:=3) (Own.ext hA h4.ext fun hq=>by have:=hfr _ hq;omega) rfl (kI ?_)
   have h5:=(hpTail hh).back0 (h4.wider mines_cons)
   first
    | exact loop (d++[i]) i.next s' _ (by rw [hall2];simp) (by omega) (by omega) (by omega) h5
    | exact ⟨_,loop f (d++[i]) i.next s' _ (by rw [hall2];simp) (by omega) (by omega) (by omega) h5⟩
  ·refine kB (zco ?_)
   exact kk _ _ (.inr ⟨d,i,_,s',hall2,hp,(hpTail hh).back0 (h4.wider mines_cons)⟩)
end
theorem eg115:∀ args w,(callFunc 115 args).run Tryz.prog w = .ok (.enter 115 args) w:=enters_of Tryz.func115 (by kernel_rfl) rfl
theorem enter115 {Y p:Value} {w:World} {K:Value→World→Prop} (h:zaj Tryz.prog 115 #[Y,p] w K):enterV Tryz.prog (.func (.func 115) #[] #[p]) #[Y] w K:=by
 refine ⟨115,#[Y,p],w,?_,h⟩
 simp [invoke,go_sem,eg115]
theorem wMarkN {Z:Nat→Prop} {w0 w:World} {L M:List Ent} {D:Nat} {o:Obj} {as_:Array Value} {F:World→Prop} (h:Hp Z w0 w L) [hm:SetObj L D (.deferred none) o M] (ho:o = .deferred (some [])) (k:∀ w',Hp Z w0 w' M→F w'):zcx ([{ target:=.collected D,args:=as_ }]++[]) w F:=wMark h ho k
abbrev rngE (lz mk:Nat) (r:Loop) (st:LoopState) (pe:Option Code) (L:List Ent):List Ent:=.obj lz (zbs r st pe)::.obj mk (.deferred (some []))::L
section
variable {σ:Type} {l:List UInt8} {n B b:Nat} {w0:World} {Z:Nat→Prop}
def rngP (L LS:List Ins→σ→List Ent) (PS:List Ins→Ins→σ→Code→Prop) (lz mk:Nat) (r:Loop) (d:List Ins) (i:Ins) (s:σ) (w:World) (v:Value) (w':World):Prop :=
 (v = .bool true∧∃ s',Hp (mines (rngE lz mk r .ready none (L d s))) w w' (rngE lz mk r .ready none (L (d++[i]) s'))) ∨
 (v = .bool false∧∃ s' pe,PS d i s' pe∧Hp (mines (rngE lz mk r .ready none (L d s))) w w' (rngE lz mk r .done (some pe) (LS (d++[i]) s')))
theorem rangeAll (hln:l.length≤1073741824) (hn:n=l.length) (L LS:List Ins→σ→List Ent) (PS:List Ins→Ins→σ→Code→Prop)
  (hin:∀ d s,Ent.own B #[.slice (some ⟨b,0,none⟩) n n] 22∈L d s∧Ent.own b (u8s l).toArray 5∈L d s)
  {Bd:(Value→World→Prop)→Nat→Loop→List Value→World→Prop} {G:List Deferred→Option Code→World→Prop} {w:World} {s0:σ} (hh:Hp Z w0 w (L [] s0))
  (body:∀ lz mk r d i rest s w bi m,allT l=d++i::rest→m=i.imm.length→w0.heap.size≤bi→Hp (mines (rngE lz mk r .ready none (L d s))) w w (.see 1 (some ⟨bi,0,none⟩) m m (u8s i.imm)::rngE lz mk r .ready none (L d s)) →
   Bd (rngP L LS PS lz mk r d i s w) lz r [insV i bi m] w)
  (kk:∀ lz mk r s w',Hp Z w0 w' (rngE lz mk r .exhausted none (L (allT l) s))→G [{ target:=.collected mk,args:=#[] }] none w')
  (ks:∀ lz mk r d i rest s pe w',allT l=d++i::rest→PS d i s pe→Hp Z w0 w' (rngE lz mk r .exhausted (some pe) (LS (d++[i]) s))→G [{ target:=.collected mk,args:=#[] }] (some pe) w') :
  entO w fun lz r mk waz=>yieldA Tryz.prog lz (fun args wy F=>Bd F lz r args wy) (enterV Tryz.prog (.func (.func 115) #[] #[.pointer (some ⟨B,0,none⟩)]) #[.func (.yield lz) #[] #[]] waz fun _ wbz=>endA lz r wbz fun pe wcz=>G mk pe wcz):=by
 intro r hyield
 have h1:=hh.mark r
 refine enter115 (f115 (σ:=σ × Code) (s0:=(s0,.skip)) (l:=l) (n:=n) (B:=B) (b:=b) hln hn (fun d s=>rngE (w.heap.size+1) w.heap.size r .ready none (L d s.1)) (fun d s=>rngE (w.heap.size+1) w.heap.size r .done (some s.2) (LS d s.1)) (fun d i s=>PS d i s.1 s.2) (fun d s=>?_) ?_ h1 ?_)
 ·exact ⟨List.mem_cons_of_mem _ (List.mem_cons_of_mem _ (hin d s.1).1),List.mem_cons_of_mem _ (List.mem_cons_of_mem _ (hin d s.1).2)⟩
 ·intro d i rest s w1 bi m ha hm hfr h2
  refine zdf ?_ (hyield _ w1 _ (body _ _ r d i rest s.1 w1 bi m ha hm hfr h2))
  rintro v w2 (⟨hv,s',h3⟩|⟨hv,s',pe,hp,h3⟩)
  ·exact .inl ⟨hv,(s',.skip),h3⟩
  ·exact .inr ⟨hv,(s',pe),hp,h3⟩
 ·rintro v w' (⟨s,h3⟩|⟨d,i,rest,s,ha,hp,h3⟩)
  ·refine wEnd h3 rfl (by decide) fun w2 h4=>?_
   exact kk _ _ r s.1 _ h4
  ·refine wEnd h3 rfl (by decide) fun w2 h4=>?_
   exact ks _ _ r d i rest s.1 s.2 _ ha hp h4
end
def zbx (ib:List (Ins × Nat)):List Value:=ib.flatMap fun x=>[.int .i64 x.1.at_,.int .i64 x.1.code,.slice (some ⟨x.2,0,none⟩) x.1.imm.length x.1.imm.length,.int .i64 x.1.next]
def ImmS (w:World) (ib:List (Ins × Nat)):Prop:=∀ x∈ib,Sees w 1 (some ⟨x.2,0,none⟩) x.1.imm.length x.1.imm.length (u8s x.1.imm)
abbrev insF (ib:List (Ins × Nat)):Ent:=.fact (fun k=>∃ x∈ib,0 < x.1.imm.length∧k=x.2) fun w=>ImmS w ib
theorem sees_same {w w':World} {z n c:Nat} {p:Option Addr} {xs:List Value} (h:Sees w z p n c xs) (hk:∀ a,0 < xs.length→p=some a→w'.heap[a.block]? = w.heap[a.block]?):Sees w' z p n c xs :=
 ⟨h.len,h.le,fun j u hj=>let ⟨a,ha,hc⟩:=h.at_ j u hj;⟨a,ha,by
  rw [← hc]
  simp only [World.cell?]
  rw [blockAdd,hk a (Nat.lt_of_le_of_lt (Nat.zero_le _) (List.getElem?_eq_some_iff.1 hj).1) ha]⟩⟩
theorem immS_on {w:World} {ib:List (Ins × Nat)} (h:ImmS w ib):(insF ib).at_ w :=
 ⟨h,fun k ⟨x,hx,h0,hk⟩=>by
  obtain ⟨a,ha,hl⟩:=(h x hx).addr (by decide) h0
  cases ha;subst hk;exact hl,fun v v' hv hk x hx=>sees_same (hv x hx) fun a h0 ha=>by
   cases ha;rw [u8s_len] at h0;exact hk _ ⟨x,hx,h0,rfl⟩⟩
theorem ImmS.bl {w w':World} {ib:List (Ins × Nat)} (h:ImmS w ib) (k:Bl w w'):ImmS w' ib:=fun x hx=>(h x hx).bl k
section
variable {Z:Nat→Prop} {w0 w:World} {L M:List Ent}
theorem Hp.insAdd {i:Ins} {b m:Nat} {ib:List (Ins × Nat)} (h:Hp Z w0 w (.see 1 (some ⟨b,0,none⟩) m m (u8s i.imm)::L)) (hm:m=i.imm.length) (hp:Pos L (insF ib) (insF (ib++[(i,b)])) M):Hp Z w0 w M:=by
 subst hm
 have h1:ImmS w ib:=(h.on (List.mem_cons_of_mem _ hp.mem)).holds
 have h2:Sees w 1 (some ⟨b,0,none⟩) i.imm.length i.imm.length (u8s i.imm):=h.all _ List.mem_cons_self
 refine h.merge hp (immS_on fun x hx=>?_) (fun k hk=>hk) fun k hk=>?_
 ·rcases List.mem_append.1 hx with h|h
  ·exact h1 x h
  ·simp only [List.mem_singleton] at h;subst h;exact h2
 ·obtain ⟨x,hx,h0,hk⟩:=hk
  rcases List.mem_append.1 hx with h|h
  ·exact .inl ⟨x,h,h0,hk⟩
  ·simp only [List.mem_singleton] at h;subst h
   exact .inr ⟨by rw [u8s_len];exact h0,_,rfl,hk⟩
end
theorem insCells_app (ib:List (Ins × Nat)) (x:Ins × Nat):zbx (ib++[x])=zbx ib++[.int .i64 x.1.at_,.int .i64 x.1.code,.slice (some ⟨x.2,0,none⟩) x.1.imm.length x.1.imm.length,.int .i64 x.1.next]:=by
 simp [zbx]
theorem insCells_len (ib:List (Ins × Nat)):(zbx ib).length=ib.length * 4:=by
 induction ib with
 | nil=>rfl
 | cons x l ih=>simp only [zbx,List.flatMap_cons,List.length_append] at ih ⊢;simp only [List.length_cons,List.length_nil];omega
theorem insCells_get {ib:List (Ins × Nat)} {k j:Nat} {x:Ins × Nat} (h:ib[k]? = some x) (hj:j < 4):(zbx ib)[k * 4+j]? = [Value.int .i64 x.1.at_,.int .i64 x.1.code,.slice (some ⟨x.2,0,none⟩) x.1.imm.length x.1.imm.length,.int .i64 x.1.next][j]?:=by
 induction ib generalizing k with
 | nil=>simp at h
 | cons y l ih =>
  cases k with
  | zero =>
   simp only [List.getElem?_cons_zero,Option.some.injEq] at h;subst h
   simp only [zbx,List.flatMap_cons,Nat.zero_mul,Nat.zero_add]
   rw [List.getElem?_append_left (by simpa using hj)]
  | succ k =>
   simp only [List.getElem?_cons_succ] at h
   rw [← ih h]
   simp only [zbx,List.flatMap_cons]
   rw [List.getElem?_append_right (by simp;omega)]
   congr 1;simp;omega
theorem allF_len {l:List UInt8}:∀ (f:Nat) (a:Int),a≤l.length→(allF l f a).length+a≤l.length
 | 0,a,h=>by simpa [allF] using h
 | f+1,a,h=>by
  unfold allF
  cases hr:zcl l a with
  | error e=>simpa using h
  | ok i =>
   have h1:=zdb hr
   have:=allF_len (l:=l) f i.next (by omega)
   simp only [List.length_cons];omega
theorem zdm (l:List UInt8):(allT l).length≤l.length:=by
 have:=allF_len (l:=l) (l.length+1) 0 (by omega)
 unfold allT;omega
def nextT (d:List Ins):Int:=match d.getLast? with|some i=>i.next|none=>0
def lastT (d:List Ins):Int:=match d.getLast? with|some i=>i.at_|none=>0
theorem nextT_app (d:List Ins) (i:Ins):nextT (d++[i])=i.next:=by simp [nextT]
theorem lastT_app (d:List Ins) (i:Ins):lastT (d++[i])=i.at_:=by simp [lastT]
theorem allF_end {l:List UInt8}:∀ (f:Nat) (a:Int),0≤a→a≤l.length→(l.length:Int)+1≤a+f→∃ e,zcl l (match (allF l f a).getLast? with|some i=>i.next|none=>a) = .error e
 | 0,a,h0,h,hf=>by omega
 | f+1,a,h0,h,hf=>by
  unfold allF
  cases hr:zcl l a with
  | error e=>exact ⟨e,hr⟩
  | ok i =>
   have h1:=zdb hr
   obtain ⟨e,he⟩:=allF_end (l:=l) f i.next (by omega) (by omega) (by omega)
   refine ⟨e,?_⟩
   simp only [List.getLast?_cons]
   cases hg:(allF l f i.next).getLast? with
   | none=>rw [hg] at he;exact he
   | some j=>rw [hg] at he;exact he
theorem allT_end (l:List UInt8):∃ e,zcl l (nextT (allT l)) = .error e:=allF_end (l.length+1) 0 (by omega) (by omega) (by omega)
def zdz (l:List UInt8):Except (Int × Int) (List Ins) :=
 if nextT (allT l) < l.length then .error ((match zcl l (nextT (allT l)) with|.error e=>e|.ok _=>0),nextT (allT l)) else
 if allT l=[] then .error (62,0) else
 if (match opT ((match (allT l).getLast? with|some i=>i.code|none=>0)) with|some r=>r.ends|none=>false)=true then .ok (allT l) else .error (62,lastT (allT l))
theorem f75H {Z:Nat→Prop} {w0:World} {L:List Ent} {p:Option Addr} {n c:Nat} {l:List UInt8} {w:World} {K:Value→World→Prop} (hh:Hp Z w0 w L) (hs:Sees w 1 p n c (u8s l)) (hln:l.length≤1073741824)
  (k:∀ B b w',Hp Z w0 w' (.own B #[.slice (some ⟨b,0,none⟩) n n] 22::.own b (u8s l).toArray 5::L)→K (.func (.func 115) #[] #[.pointer (some ⟨B,0,none⟩)]) w'):zaj Tryz.prog 75 #[.slice p n c] w K :=
 f75 hs hln fun B b w' hb h1 h2 o1 o2=>k B b w' (hh.adds (M:=[.own B #[.slice (some ⟨b,0,none⟩) n n] 22,.own b (u8s l).toArray 5]) hb (fun x hx=>by
  simp only [List.mem_cons,List.not_mem_nil,or_false] at hx
  rcases hx with rfl|rfl
  ·exact o1
  ·exact o2) (fun x hx i hi=>by
  simp only [List.mem_cons,List.not_mem_nil,or_false] at hx
  rcases hx with rfl|rfl
  ·have hi:i=B:=hi
   omega
  ·have hi:i=b:=hi
   omega) (List.pairwise_cons.2 ⟨fun x hx=>by simp only [List.mem_singleton] at hx;subst hx;exact apartOwn (by omega),List.pairwise_singleton _ _⟩))
structure InsL (w:World) (p:Option Addr) (n c:Nat) (ib:List (Ins × Nat)):Prop where
 len:n=ib.length
 sees:Sees w 4 p n c (zbx ib)
 imms:ImmS w ib
theorem InsL.bl {w w':World} {p:Option Addr} {n c:Nat} {ib:List (Ins × Nat)} (h:InsL w p n c ib) (k:Bl w w'):InsL w' p n c ib:=⟨h.len,h.sees.bl k,h.imms.bl k⟩
def insS (p:Option Addr) (ib:List (Ins × Nat)):Nat→Prop:=fun k=>(0 < ib.length∧∃ a,p=some a∧k=a.block)∨∃ x∈ib,0 < x.1.imm.length∧k=x.2
abbrev insE (p:Option Addr) (n c:Nat) (ib:List (Ins × Nat)):Ent:=.fact (insS p ib) fun w=>InsL w p n c ib
theorem insE_on {w:World} {p:Option Addr} {n c:Nat} {ib:List (Ins × Nat)} (h:InsL w p n c ib):(insE p n c ib).at_ w:=by
 refine ⟨h,fun k hk=>?_,fun v v' hv hk=>⟨hv.len,sees_same hv.sees fun a h0 ha=>hk _ (.inl ⟨?_,a,ha,rfl⟩),fun x hx=>sees_same (hv.imms x hx) fun a h0 ha=>?_⟩⟩
 ·rcases hk with ⟨h0,a,ha,rfl⟩|⟨x,hx,h0,rfl⟩
  ·obtain ⟨a',ha',hl⟩:=h.sees.addr (by decide) (by rw [h.len];exact h0)
   rw [ha] at ha';cases ha';exact hl
  ·obtain ⟨a,ha,hl⟩:=(h.imms x hx).addr (by decide) h0
   cases ha;exact hl
 ·rw [insCells_len] at h0;omega
 ·cases ha
  rw [u8s_len] at h0
  exact hk _ (.inr ⟨x,hx,h0,rfl⟩)
abbrev L94 (w0:World) (x5 x6 x7 B b n:Nat) (l:List UInt8) (d:List Ins) (s:List (Ins × Nat) × Option Addr × Nat):List Ent :=
 [pureE (s.1.map (·.1)=d∧∀ x∈s.1,w0.heap.size≤x.2),insF s.1,.row 4 s.2.1 s.1.length s.2.2 70 (zbx s.1),.own B #[.slice (some ⟨b,0,none⟩) n n] 22,.own b (u8s l).toArray 5,.own x7 #[.int .i64 (lastT d)] 3,.own x6 #[.int .i64 (nextT d)] 3,.own x5 #[.slice s.2.1 s.1.length s.2.2] 148]
def scanV (e a:Int):Value:=.tuple #[.slice none 0 0,.int .i64 e,.int .i64 a]
theorem jumpN {w:World} {Kn Kr:World→Prop} {Kx Kg:Nat→World→Prop} (h:Kn w):jumpP none w Kn Kr Kx Kg:=h
theorem rowP_some {c:Int} {r:OpR} {cd imm inn out gas:Int} {s:ByteArray} {e:Bool} (h:RowP c (some r) cd s imm inn out gas e):cd=c∧imm=r.imm∧inn=r.inn∧out=r.out∧gas=r.gas∧e=r.ends:=⟨h.1,h.2.2.1,h.2.2.2.1,h.2.2.2.2.1,h.2.2.2.2.2.1,h.2.2.2.2.2.2⟩
theorem allF_mem {l:List UInt8}:∀ (f:Nat) (a:Int) (i:Ins),i∈allF l f a→∃ a',zcl l a' = .ok i
 | 0,a,i,h=>by simp [allF] at h
 | f+1,a,i,h=>by
  unfold allF at h
  cases hr:zcl l a with
  | error e=>rw [hr] at h;simp at h
  | ok j =>
   rw [hr] at h
   rcases List.mem_cons.1 h with h|h
   ·subst h;exact ⟨a,hr⟩
   ·exact allF_mem f j.next i h
theorem allT_mem {l:List UInt8} {i:Ins} (h:i∈allT l):∃ a,zcl l a = .ok i:=allF_mem _ _ _ h
theorem f94 {p:Option Addr} {n c:Nat} {l:List UInt8} {w:World} {K:Value→World→Prop} (hs:Sees w 1 p n c (u8s l)) (hln:l.length≤1000000000)
  (ke:∀ e a,zdz l = .error (e,a)→∀ w',Bl w w'→K (scanV e a) w')
  (ko:∀ d,zdz l = .ok d→∀ p n c ib w',Bl w w'→ib.map (·.1)=d→InsL w' p n c ib→(∀ k,insS p ib k→w.heap.size≤k)→K (.tuple #[.slice p n c,.int .i64 0,.int .i64 0]) w'):zaj Tryz.prog 94 #[.slice p n c] w K:=by
 refine call94 _ _ _ _ _ ?_
 unfold F94
 have hn:=hs.bytes
 have hh:=Hp.start w
 with_reducible repeat' first|refine kk_ ?_|refine nx hh ?_|refine allW fun w' hh=>?_|exact sd_|refine ai ?_ ?_|exact vr|fail
 refine f75H hh (hs.bl hh.done) (by omega) fun B b w6 hh=>?_
 replace hh:=hh.rowNil 4 70
 replace hh:=hh.know (x:=insF []) (immS_on fun x hx=>by cases hx) (fun k hk=>hk) fun y hy k hk ⟨x,hx,_⟩=>by cases hx
 replace hh:=hh.pureI (p:=([]:List (Ins × Nat)).map (·.1)=[]∧∀ x∈([]:List (Ins × Nat)),w.heap.size≤x.2) ⟨rfl,fun x hx=>by cases hx⟩
 refine rangeAll (B:=B) (b:=b) (by omega) hn (L94 w _ _ _ B b n l) (fun _ _=>[]) (fun _ _ _ _=>False) (fun d s=>⟨by simp,by simp⟩) (s0:=([],none,0)) hh ?_ ?_ ?_
 ·intro lz mk r d i rest s w' bi m hall hm hfr hh
  obtain ⟨hd,hfs⟩:=hh.pureO (p:=s.1.map (·.1)=d∧∀ x∈s.1,w.heap.size≤x.2) (by simp)
  have hl:=zdm l
  rw [hall] at hl
  simp only [List.length_append,List.length_cons] at hl
  have hsl:s.1.length=d.length:=by rw [← hd];simp
  unfold B94_1 insV
  repeat' first|(with_reducible first|refine kk_ ?_|refine nx hh ?_|refine allW fun w' hh=>?_|exact sd_|refine wReady hh rfl ?_|refine wPut hh fun w' hh=>?_)|((with_reducible refine appH hh (by with_unfolding_all rfl) (by with_unfolding_all rfl) (by with_unfolding_all rfl) (by with_unfolding_all rfl) (by with_unfolding_all rfl) (by with_unfolding_all rfl) (by with_unfolding_all rfl) (by omega) (by with_unfolding_all rfl) fun g cap w4 hh=>?_);(replace hh:=hpTail hh))|(with_reducible first|refine And.intro ?_ ?_|refine wStop hh rfl fun w' hh=>?_|refine And.intro ?_ ?_|exact vr)|fail
  refine .inl ⟨rfl,(s.1++[(i,bi)],some ⟨g,0,none⟩,cap),?_⟩
  replace hh:=hpTail hh
  replace hh:=Hp.insAdd (i:=i) hh hm (by repeat (first|exact Pos.here|apply Pos.there))
  subst hm
  have hfs2:∀ x∈s.1++[(i,bi)],w.heap.size≤x.2:=fun x hx=>by
   rcases List.mem_append.1 hx with h|h
   ·exact hfs x h
   ·simp only [List.mem_singleton] at h;subst h;exact hfr
  have h9:=Hp.less hh (x:=pureE (s.1.map (·.1)=d∧∀ x∈s.1,w.heap.size≤x.2)) (y:=pureE ((s.1++[(i,bi)]).map (·.1)=d++[i]∧∀ x∈s.1++[(i,bi)],w.heap.size≤x.2)) (by repeat (first|exact Pos.here|apply Pos.there)) ⟨⟨by rw [List.map_append,hd];rfl,hfs2⟩,fun k hk=>hk.elim,fun _ _ h _=>h⟩ (fun k hk=>hk) (fun k hk=>hk)
  unfold rngE L94
  simp only [nextT_app,lastT_app,insCells_app,List.length_append,List.length_singleton]
  exact h9
 ·intro lz mk r s w7 hh
  obtain ⟨hd,hfs⟩:=hh.pureO (p:=s.1.map (·.1)=allT l∧∀ x∈s.1,w.heap.size≤x.2) (by simp)
  have hl:=zdm l
  have hsl:s.1.length=(allT l).length:=by rw [← hd];simp
  obtain ⟨e,he⟩:=allT_end l
  have hs7:=hs.bl hh.done
  refine jumpN ?_
  unfold J94_0
  repeat' first|(with_reducible first|refine kk_ ?_|refine nx hh ?_|refine allW fun w' hh=>?_|exact sd_|refine ifD (fun hc=>?_) (fun hc=>?_)|refine And.intro ?_ ?_|exact vr)|fail
  ·refine f39 hs7 (by omega) (fun e' he' w8 hb=>?_) (fun i hi=>by rw [hi] at he;cases he)
   replace hh:=hh.bl hb
   have hsc:zdz l = .error (e',nextT (allT l)):=by rw [zdz,if_pos (by omega),he']
   unfold errV
   repeat' first|(with_reducible first|refine kk_ ?_|refine nx hh ?_|refine allW fun w' hh=>?_|exact sd_|refine wMarkN hh rfl fun w' hh=>?_|refine And.intro ?_ ?_|exact vr)|fail
   exact ke _ _ hsc _ hh.done
  ·repeat' first|(with_reducible first|refine kk_ ?_|refine nx hh ?_|refine allW fun w' hh=>?_|exact sd_|refine ifE (fun hc2=>?_) (fun hc2=>?_)|refine wMarkN hh rfl fun w' hh=>?_|refine And.intro ?_ ?_|exact vr)|fail
   ·refine ke 62 0 ?_ _ hh.done
    first|rw [zdz,if_neg (by omega),if_pos (List.length_eq_zero_iff.1 (by omega))]|(dsimp only;rw [zdz,if_neg (by omega),if_pos (List.length_eq_zero_iff.1 (by omega))])
   ·have hrow:=(hh.row (z:=4) (p:=s.2.1) (n:=s.1.length) (c:=s.2.2) (e:=70) (xs:=zbx s.1) (by simp)).sees
    obtain ⟨x,hx⟩:∃ x,s.1[s.1.length - 1]? = some x:=⟨_,List.getElem?_eq_getElem (by omega)⟩
    have hlast:(allT l).getLast? = some x.1:=by rw [← hd,List.getLast?_eq_getElem?,List.length_map,List.getElem?_map,hx];rfl
    obtain ⟨a,ha⟩:=allT_mem (List.mem_of_getLast? hlast)
    have hok:=zdb ha
    rw [i64w (by omega) (by omega)]
    refine ixSee hrow (by decide) (by with_unfolding_all rfl) (by with_unfolding_all rfl) (by omega) (by omega) fun ad had=>?_
    rw [show ((s.1.length:Int) - 1).toNat=s.1.length - 1 by omega] at had
    have hcell:=had 1 (.int .i64 x.1.code) (by decide) (by rw [insCells_get hx (by decide)];rfl)
    refine kA (ld hcell (kI ?_))
    cases ho:opT x.1.code with
    | none=>have:=hok.2.2.2.2.2.2.2.2.1;rw [ho] at this;cases this
    | some r =>
     refine f36 (by omega) (by omega) fun cd nm imm inn out gas en w' hb hr=>?_
     replace hh:=hh.bl hb
     rw [ho] at hr
     have hr':=rowP_some hr
     obtain ⟨rfl,rfl,rfl,rfl,rfl,rfl⟩:=hr'
     have hsc:∀ b,r.ends=b→zdz l=if b=true then .ok (allT l) else .error (62,lastT (allT l)):=fun b hb=>by
      rw [zdz,if_neg (by omega),if_neg (fun h=>by rw [h] at hlast;simp at hlast),hlast]
      simp only [ho,hb]
     repeat' first|(with_reducible first|refine kk_ ?_|refine nx hh ?_|refine allW fun w' hh=>?_|exact sd_|refine ifBb (fun hq=>?_) (fun hq=>?_)|refine wMarkN hh rfl fun w' hh=>?_|refine And.intro ?_ ?_|exact vr)|fail
     ·exact ke _ _ (hsc false (by simpa using hq)) _ hh.done
     ·have hf:=hh.on (S:=fun k=>∃ y∈s.1,0 < y.1.imm.length∧k=y.2) (A:=fun w=>ImmS w s.1) (by simp)
      have hrow:=hh.row (z:=4) (p:=s.2.1) (n:=s.1.length) (c:=s.2.2) (e:=70) (xs:=zbx s.1) (by simp)
      refine ko _ (hsc true (by simpa using hq)) _ _ _ _ _ hh.done hd ⟨rfl,hrow.sees,hf.holds⟩ fun k hk=>?_
      rcases hk with ⟨h0,a,ha,rfl⟩|⟨x,hx,h0,rfl⟩
      ·refine hh.rowNew (z:=4) (p:=s.2.1) (n:=s.1.length) (c:=s.2.2) (e:=70) (xs:=zbx s.1) (by simp) _ ?_
       rcases hrow.form with ⟨hv,_⟩|⟨g,c',hv,_⟩
       ·simp only [Value.slice.injEq] at hv
        rw [hv.1] at ha;cases ha
       ·simp only [Value.slice.injEq] at hv
        rw [hv.1] at ha;cases ha
        unfold Blk
        rw [hv.1]
        simp [Value.ownBlock]
      ·exact hfs x hx
 ·intro lz mk r d i rest s pe w' _ h
  exact h.elim
def zbr (l:List Bool):List Value:=l.map fun b=>.bool b
theorem zcy (l:List Bool):(zbr l).length=l.length:=by simp [zbr]
def startsF (n:Nat) (d:List Ins):List Bool:=d.foldl (fun acc i=>acc.set i.at_.toNat true) (List.replicate n false)
def zbj (l:List UInt8):List Bool:=startsF l.length (allT l)
theorem startsF_app (n:Nat) (d:List Ins) (i:Ins):startsF n (d++[i])=(startsF n d).set i.at_.toNat true:=by simp [startsF]
theorem foldl_set_len (d:List Ins):∀ l:List Bool,(d.foldl (fun acc i=>acc.set i.at_.toNat true) l).length=l.length:=by
 induction d with
 | nil=>intro l;rfl
 | cons i d ih=>intro l;simp [ih]
theorem startsF_len (n:Nat) (d:List Ins):(startsF n d).length=n:=by simp [startsF,foldl_set_len]
theorem bools_set (l:List Bool) (k:Nat) (b:Bool):(zbr l).set k (.bool b)=zbr (l.set k b):=by simp [zbr,List.map_set]
abbrev L95 (x3 g B b n:Nat) (l:List UInt8) (d:List Ins) (s:Unit):List Ent :=
 [.own B #[.slice (some ⟨b,0,none⟩) n n] 22,.own b (u8s l).toArray 5,.own x3 #[.slice (some ⟨g,0,none⟩) n n] 47,.own g (zbr (startsF n d)).toArray 4]
theorem f95 {p:Option Addr} {n c:Nat} {l:List UInt8} {w:World} {K:Value→World→Prop} (hs:Sees w 1 p n c (u8s l)) (hln:l.length≤1000000000)
  (k:∀ g w',Bl w w'→w.heap.size≤g→Own w' g (zbr (zbj l)).toArray 4→K (.slice (some ⟨g,0,none⟩) n n) w'):zaj Tryz.prog 95 #[.slice p n c] w K:=by
 refine call95 _ _ _ _ _ ?_
 unfold F95
 have hn:=hs.bytes
 have hh:=Hp.start w
 refine makeN (n:=n) (z:=.bool false) hh (by with_unfolding_all rfl) (by with_unfolding_all rfl) (by with_unfolding_all rfl) (by omega) (by decide) fun w3 hh _=>?_
 with_reducible repeat' first|refine kk_ ?_|refine nx hh ?_|refine allW fun w' hh=>?_|exact sd_|refine ai ?_ ?_|exact vr|fail
 refine f75H hh (hs.bl hh.done) (by omega) fun B b w6 hh=>?_
 have e0:(List.replicate n (Value.bool false))=zbr (startsF n []):=by simp [zbr,startsF]
 rw [e0] at hh
 refine rangeAll (B:=B) (b:=b) (by omega) hn (L95 _ _ B b n l) (fun _ _=>[]) (fun _ _ _ _=>False) (fun d s=>⟨by simp,by simp⟩) (s0:=()) hh ?_ ?_ ?_
 ·intro lz mk r d i rest s w bi m hall hm hfr hh
  obtain ⟨a,ha⟩:=allT_mem (l:=l) (i:=i) (by rw [hall];simp)
  have hok:=zdb ha
  unfold B95_0 insV
  repeat' first|(with_reducible first|refine kk_ ?_|refine nx hh ?_|refine allW fun w' hh=>?_|exact sd_|refine wReady hh rfl ?_|refine wPut hh fun w' hh=>?_|refine wStop hh rfl fun w' hh=>?_|refine And.intro ?_ ?_|exact vr)|fail
  refine wIxSt (cs:=zbr (startsF n d)) (M:=_) hh (by repeat (first|exact Pos.here|apply Pos.there)) (by rw [zcy,startsF_len];exact Nat.le_refl _) (by with_unfolding_all rfl) (by with_unfolding_all rfl) (by omega) (by omega) (by with_unfolding_all rfl) rfl rfl fun w' hh _=>?_
  repeat' first|(with_reducible first|refine kk_ ?_|refine nx hh ?_|refine allW fun w' hh=>?_|exact sd_|refine wStop hh rfl fun w' hh=>?_|refine And.intro ?_ ?_|exact vr)|fail
  refine .inl ⟨rfl,(),?_⟩
  rw [bools_set,← startsF_app] at hh
  exact hpTail (hpTail hh)
 ·intro lz mk r s w7 hh
  refine jumpN ?_
  repeat' first|(with_reducible first|refine kk_ ?_|refine nx hh ?_|refine allW fun w' hh=>?_|exact sd_|refine wMarkN hh rfl fun w' hh=>?_|refine And.intro ?_ ?_|exact vr)|fail
  have hown:=hh.own (b:=w.heap.size) (cs:=(zbr (startsF n (allT l))).toArray) (t:=4) (by simp)
  refine k _ _ hh.done (Nat.le_refl _) ?_
  rw [zbj,← hn];exact hown
 ·intro lz mk r d i rest s pe w' _ h
  exact h.elim
theorem zbl (l:List Int):(ints l).length=l.length:=by simp [ints]
section
variable {P:Program} {w:World} {t e n c:Nat} {p:Option Addr} {k:IntKind} {i:Int}
theorem rdI {l:List Int} {F:Int→World→Prop} (hs:Sees w 1 p n c (ints l)) (ht:P.underlying t=some (.slice e)) (hz:(P.info? e).map (·.size)=some 1) (h0:0≤i) (h1:i < (n:Int))
  (kk:∀ x,l[i.toNat]? = some x→F x w):semK P (Instr.indexAt t (.slice p n c) (.int k i)) w fun v1 w1=>asA v1 fun ad=>ldK P w1 ad fun v2=>asI .i64 v2 fun x=>F x w1:=by
 refine rdSee hs ht hz h0 h1 fun u hu=>?_
 simp only [ints,List.getElem?_map,Option.map_eq_some_iff] at hu
 obtain ⟨x,hx,rfl⟩:=hu
 exact kI (kk x hx)
theorem rdBl {l:List Bool} {F:Bool→World→Prop} (hs:Sees w 1 p n c (zbr l)) (ht:P.underlying t=some (.slice e)) (hz:(P.info? e).map (·.size)=some 1) (h0:0≤i) (h1:i < (n:Int))
  (kk:∀ x,l[i.toNat]? = some x→F x w):semK P (Instr.indexAt t (.slice p n c) (.int k i)) w fun v1 w1=>asA v1 fun ad=>ldK P w1 ad fun v2=>asB v2 fun x=>F x w1:=by
 refine rdSee hs ht hz h0 h1 fun u hu=>?_
 simp only [zbr,List.getElem?_map,Option.map_eq_some_iff] at hu
 obtain ⟨x,hx,rfl⟩:=hu
 exact kB (kk x hx)
theorem rdIns {ib:List (Ins × Nat)} {F:Value→World→Prop} (hs:InsL w p n c ib) (ht:P.underlying t=some (.slice e)) (hz:(P.info? e).map (·.size)=some 4) (h0:0≤i) (h1:i < (n:Int))
  (kk:∀ x ad,ib[i.toNat]? = some x→w.cell? ad=some (.int .i64 x.1.at_)→w.cell? (ad.add 1)=some (.int .i64 x.1.code)→w.cell? (ad.add 2)=some (.slice (some ⟨x.2,0,none⟩) x.1.imm.length x.1.imm.length)→w.cell? (ad.add 3)=some (.int .i64 x.1.next) →
   Sees w 1 (some ⟨x.2,0,none⟩) x.1.imm.length x.1.imm.length (u8s x.1.imm)→F (.pointer (some ad)) w):semK P (Instr.indexAt t (.slice p n c) (.int k i)) w F:=by
 have hl:=hs.len
 have hi:i.toNat < ib.length:=by omega
 have hx:ib[i.toNat]? = some ib[i.toNat]:=List.getElem?_eq_getElem hi
 refine ixSee hs.sees (by decide) ht hz h0 h1 fun ad had=>?_
 have h:=fun j (hj:j < 4) u hu=>had j u hj (by rw [insCells_get hx hj];exact hu)
 have h00:=h 0 (by decide) _ rfl
 rw [add_zero] at h00
 exact kk _ ad hx h00 (h 1 (by decide) _ rfl) (h 2 (by decide) _ rfl) (h 3 (by decide) _ rfl) (hs.imms _ (List.getElem_mem hi))
end
def badL (n:Nat) (st:List Bool) (ts:List Int):Bool:=ts.any fun t=>decide (t < 0) || decide (t ≥ n) || !(st.getD t.toNat false)
def zcg (n:Nat) (st:List Bool):List Ins→Option Ins
 | []=>none
 | i::d=>if badL n st (zas i)=true then some i else zcg n st d
def badR (n:Nat) (st:List Bool) (d:List Ins):Int × Int:=match zcg n st d with|some i=>(63,i.at_)|none=>(0,0)
def checkT (l:List UInt8):Int × Int :=
 match zdz l with
 | .error x=>x
 | .ok d=>badR l.length (zbj l) d
theorem l157_2 {C:Option Addr→Nat→Nat→Option Addr→Nat→Nat→Option Addr→Nat→Nat→Int→Int→World→Prop} {K:Value→World→Prop} {p p7 p24 p31:Option Addr} {n c n7 c7 n24 c24 n31 c31 x9:Nat} {x25 x26:Int} {w w0:World} {st:List Bool} {ts:List Int} {L:List Ent} {a a1 a3:Int} {v:Value}
  (hh:Hp zan w0 w (.own x9 #[.int .i64 a,.int .i64 a1,v,.int .i64 a3] 70::L)) (h7:Sees w 1 p7 n7 c7 (zbr st)) (h31:Sees w 1 p31 n31 c31 (ints ts)) (hn7:n7=n) (hln:n31≤1000000000)
  (kb:badL n st ts=true→∀ w',Bl w0 w'→K (.tuple #[.int .i64 63,.int .i64 a]) w') (kg:badL n st ts=false→∀ w',Bl w0 w'→C p n c p7 n7 c7 p24 n24 c24 x25 (IntKind.wrap .i64 (x26+1)) w') :
  ∀ (m i:Nat),i+m=n31→badL n st (ts.take i)=false→L157_2 K C (m+1) p n c p7 n7 c7 ⟨x9,0,none⟩ p24 n24 c24 x25 x26 p31 n31 c31 (n31:Int) (i:Int) w:=by
 have hlen:=h31.len
 rw [zbl] at hlen
 have hst:=h7.len
 rw [zcy] at hst
 intro m
 induction m with
 | zero =>
  intro i hi hb
  unfold L157_2 J157_1
  refine ifD (fun h=>by omega) fun _=>?_
  rw [List.take_of_length_le (by omega)] at hb
  exact kg hb _ hh.done
 | succ m ih =>
  intro i hi hb
  have hx:ts[i]? = some (ts[i]'(by omega)):=List.getElem?_eq_getElem (by omega)
  have htk:badL n st (ts.take (i+1))=(decide (ts[i]'(by omega) < 0) || decide (ts[i]'(by omega) ≥ n) || !(st.getD (ts[i]'(by omega)).toNat false)):=by
   have:ts.take (i+1)=ts.take i++[ts[i]'(by omega)]:=by rw [List.take_add_one,hx];rfl
   unfold badL at hb ⊢
   rw [this,List.any_append,hb];simp
  have bad:badL n st (ts.take (i+1))=true→badL n st ts=true:=fun h=>by
   unfold badL at h ⊢
   rw [List.any_eq_true] at h ⊢
   obtain ⟨x,hx,h⟩:=h
   exact ⟨x,List.mem_of_mem_take hx,h⟩
  unfold L157_2
  have next:badL n st (ts.take (i+1))=false→L157_2 K C (m+1) p n c p7 n7 c7 ⟨x9,0,none⟩ p24 n24 c24 x25 x26 p31 n31 c31 (n31:Int) (IntKind.wrap .i64 ((i:Int)+1)) w:=fun h=>by
   rw [i64w (by omega) (by omega)]
   exact_mod_cast ih (i+1) (by omega) h
  have J3:∀ b,badL n st (ts.take (i+1))=b→J157_3 K C (L157_2 K C (m+1)) p n c p7 n7 c7 ⟨x9,0,none⟩ p24 n24 c24 x25 x26 p31 n31 c31 (n31:Int) (i:Int) b w:=fun b hbb=>by
   unfold J157_3
   cases b with
   | false=>exact next hbb
   | true =>
    refine ifBt ?_
    with_reducible repeat' first|refine kk_ ?_|refine nx hh ?_|refine allW fun w' hh=>?_|exact sd_|refine ai ?_ ?_|exact vr|fail
    exact kb (bad hbb) _ hh.done
  refine ifD (fun _=>?_) fun h=>by omega
  refine rdI h31 (by with_unfolding_all rfl) (by with_unfolding_all rfl) (by omega) (by omega) fun x hx2=>?_
  simp only [Int.toNat_natCast,hx,Option.some.injEq] at hx2
  subst hx2
  refine ifD (fun h1=>J3 true ?_) fun h1=>ifD (fun h2=>J3 true ?_) fun h2=>?_
  ·first|rw [htk];simp [h1]|(dsimp only;rw [htk];simp [h1])
  ·rw [htk];simp [h2]
  ·refine rdBl h7 (by with_unfolding_all rfl) (by with_unfolding_all rfl) (by omega) (by omega) fun b hb2=>J3 _ ?_
   rw [htk]
   simp only [h1,h2,decide_false,Bool.false_or,List.getD_eq_getElem?_getD,hb2,Option.getD_some]
theorem pairsT_len:∀ (nx:Int) (l:List UInt8),(pairsT nx l).length≤l.length
 | nx,[]=>by simp [pairsT]
 | nx,[a]=>by simp [pairsT]
 | nx,a::b::l=>by have:=pairsT_len nx l;simp only [pairsT,List.length_cons];omega
theorem leadsT_len {i:Ins} {k:Nat} (h:i.imm.length≤k):(zas i).length≤k:=by
 unfold zas
 repeat' split
 ·have:=pairsT_len i.next (i.imm.drop 1);rw [List.length_drop] at this;omega
 ·have:=pairsT_len i.next i.imm;omega
 ·simp
 ·simp
theorem l157_0 {K:Value→World→Prop} {p p7 p24:Option Addr} {n c n7 c7 n24 c24:Nat} {w0:World} {st:List Bool} {ib:List (Ins × Nat)} (hn7:n7=n) (hn:n24≤1000000000)
  (hib:∀ x∈ib,0≤x.1.code∧x.1.code < 256∧x.1.imm.length≤600)
  (kk:∀ w',Bl w0 w'→K (.tuple #[.int .i64 (badR n st (ib.map (·.1))).1,.int .i64 (badR n st (ib.map (·.1))).2]) w') :
  ∀ (m i:Nat) (w:World),i+m=n24→zcg n st ((ib.take i).map (·.1))=none→Bl w0 w→Sees w 1 p7 n7 c7 (zbr st)→InsL w p24 n24 c24 ib→L157_0 K (m+1) p n c p7 n7 c7 p24 n24 c24 (n24:Int) (i:Int) w:=by
 have app:∀ d e:List Ins,zcg n st (d++e)=match zcg n st d with|some x=>some x|none=>zcg n st e:=by
  intro d e
  induction d with
  | nil=>rfl
  | cons x d ih=>simp only [List.cons_append,zcg,ih];split <;> rfl
 intro m
 induction m with
 | zero =>
  intro i w hi hb hb0 h7 h24
  unfold L157_0
  refine ifD (fun h=>by omega) fun _=>?_
  have:=h24.len
  rw [List.take_of_length_le (by omega)] at hb
  have kk:=kk _ hb0
  rw [badR,hb] at kk
  exact kk
 | succ m ih =>
  intro i w hi hb hb0 h7 h24
  have hlen:=h24.len
  unfold L157_0
  refine ifD (fun _=>?_) fun h=>by omega
  refine rdIns h24 (by with_unfolding_all rfl) (by with_unfolding_all rfl) (by omega) (by omega) fun x ad hx c0 c1 c2 c3 hsee=>?_
  simp only [Int.toNat_natCast] at hx
  obtain ⟨q1,q2,q3⟩:=hib x (List.mem_of_getElem? hx)
  have htk:(ib.take (i+1)).map (·.1)=(ib.take i).map (·.1)++[x.1]:=by rw [List.take_add_one,hx];simp
  have hsp:ib.map (·.1)=(ib.take (i+1)).map (·.1)++(ib.drop (i+1)).map (·.1):=by rw [← List.map_append,List.take_append_drop]
  have hb1:zcg n st ((ib.take (i+1)).map (·.1))=if badL n st (zas x.1)=true then some x.1 else none:=by
   rw [htk,app,hb];rfl
  have hh:=Hp.start w
  repeat' first|(with_reducible first|refine kk_ ?_|refine nx hh ?_|refine allW fun w' hh=>?_|exact sd_|refine ld c0 ?_|refine ld c1 ?_|refine ld c2 ?_|refine ld c3 ?_|refine And.intro ?_ ?_|exact vr)|fail
  refine f40 q1 q2 (hsee.bl hh.done) (by omega) fun p' n' c' w4 hb4 hr hg=>?_
  replace hh:=hh.bl hb4
  have hleads:(zas x.1).length=n':=by have:=hr.sees.len;rw [zbl] at this;omega
  have hll:(zas x.1).length≤600:=leadsT_len q3
  refine ⟨n'+1,?_⟩
  refine l157_2 (ts:=zas x.1) (st:=st) hh (h7.bl hh.done) hr.sees hn7 (by omega) (fun hbad w' hb'=>?_) (fun hbad w' hb'=>?_) n' 0 (by omega) (by simp [badL])
  ·have kk:=kk _ (hb0.trans hb')
   rw [badR,hsp,app,hb1,if_pos hbad] at kk
   exact kk
  ·rw [i64w (by omega) (by omega)]
   rw [if_neg (by rw [hbad];decide)] at hb1
   exact_mod_cast ih (i+1) w' (by omega) hb1 (hb0.trans hb') (h7.bl hb') (h24.bl hb')
theorem scanT_err {l:List UInt8} {e a:Int} (he:zdz l = .error (e,a)):(e != 0)=true:=by
 obtain ⟨e',he'⟩:=allT_end l
 unfold zdz at he
 rw [he'] at he
 repeat' split at he
 all_goals first|cases he|skip
 all_goals first
  | rfl
  | (rename_i hq;cases hq;rcases readT_err he' with h|h|h <;> subst h <;> rfl)
  | (rename_i hq;cases hq)
theorem f157 {p:Option Addr} {n c:Nat} {l:List UInt8} {w:World} {K:Value→World→Prop} (hs:Sees w 1 p n c (u8s l)) (hln:l.length≤1000000000)
  (k:∀ w',Bl w w'→K (.tuple #[.int .i64 (checkT l).1,.int .i64 (checkT l).2]) w'):zaj Tryz.prog 157 #[.slice p n c] w K:=by
 refine call157 _ _ _ _ _ ?_
 unfold F157
 have hn:=hs.bytes
 refine f94 hs hln (fun e a he w1 hb1=>?_) (fun d hd p1 n1 c1 ib w1 hb1 hib hil _=>?_)
 ·have hh:=Hp.start w1
  have hne:(e != 0)=true:=scanT_err he
  unfold scanV
  with_reducible repeat' first|refine kk_ ?_|refine nx hh ?_|refine allW fun w' hh=>?_|exact sd_|refine ai ?_ ?_|exact vr|fail
  first|rw [hne]|(dsimp only;rw [hne])
  refine ifBt ?_
  have k:=k _ hb1
  rw [checkT,he] at k
  exact k
 ·have hh:=Hp.start w1
  with_reducible repeat' first|refine kk_ ?_|refine nx hh ?_|refine allW fun w' hh=>?_|exact sd_|refine ai ?_ ?_|exact vr|fail
  refine ifBf ?_
  refine f95 (hs.bl hb1) hln fun g w2 hb2 hg hown=>?_
  have hd2:d=allT l:=by
   unfold zdz at hd
   repeat' split at hd
   all_goals cases hd
   all_goals rfl
  have hlen:=hil.len
  have hal:=zdm l
  have hil2:ib.length=(allT l).length:=by rw [← hd2,← hib];simp
  refine kL ⟨n1+1,?_⟩
  refine l157_0 (st:=zbj l) (ib:=ib) (w0:=w) rfl (by omega) (fun x hx=>?_) (fun w' hb=>?_) n1 0 w2 (by omega) (by simp [zcg]) (hb1.trans hb2) (Own.sees hown (by rw [zcy];unfold zbj;rw [startsF_len];exact hn.symm)) (hil.bl hb2)
  ·obtain ⟨a,ha⟩:=allT_mem (l:=l) (i:=x.1) (by rw [← hd2,← hib];exact List.mem_map_of_mem hx)
   have:=zdb ha
   omega
  ·have k:=k _ hb
   rw [checkT,hd] at k
   simp only [← hib,← hn] at k
   exact k
end Go.Proofs.YtlfhngoeecjfpaaGreatDoor.B
namespace Go.Proofs.YtlfhngoeecjfpaaGreatDoor.W
open Go Go.Proofs.YtlfhngoeecjfpaaGreatDoor.Sh
def J4_7 (R:KV) (C_L4_5:OA→Nat→Nat→OA→Nat→Nat→OA→Nat→Nat→OA→Nat→Nat→Int→World→Prop) (x1p:OA) (x1l:Nat) (x1c:Nat) (x5p:OA) (x5l:Nat) (x5c:Nat) (x6p:OA) (x6l:Nat) (x6c:Nat) (x7p:OA) (x7l:Nat) (x7c:Nat) (x16:Int) (x17:Int) (w:World):Prop :=
 semK PP (Instr.indexAt 45 (.slice x5p x5l x5c) (i6 x17)) w fun v1 w1=>asA v1 fun ad1=>gP w1 ad1 fun p1=>CV 15 #[(.pointer p1)] w1 fun v3 w2=>dT37 v3 fun n1 n2 n3 n4 b1=>zaf w2 (.cells #[(u6 0),(u6 0),(i6 0),(i6 0)] 40) fun w3=>sU 40 ⟨w2.heap.size,0,none⟩ (.agg #[(u6 n1),(u6 n2),(i6 n3),(i6 n4)]) w3 fun w4=>zbf w4 fun w5=>mb38 w5 w2.heap.size fun n5 n6 n7 n8=>semK PP (Instr.indexAt 46 (.slice x6p x6l x6c) (i6 x17)) w5 fun v8 w6=>asA v8 fun ad2=>ma39 w5 ad2 fun n9 n10 n11 n12=>ifB (!(((n5:Int) == n9) && (((n6:Int) == n10) && (((n7:Int) == n11) && ((n8:Int) == n12))))) (R (.bool false) w5) (semK PP (Instr.indexAt 47 (.slice x7p x7l x7c) (i6 x17)) w5 fun v13 w7=>asA v13 fun ad3=>gB w5 ad3 fun b2=>ifB (!(b1 == b2)) (R (.bool false) w5) (C_L4_5 x1p x1l x1c x5p x5l x5c x6p x6l x6c x7p x7l x7c (IntKind.wrap .i64 (x16+1)) w5))
def J4_6 (R:KV) (C_L4_5:OA→Nat→Nat→OA→Nat→Nat→OA→Nat→Nat→OA→Nat→Nat→Int→World→Prop) (x1p:OA) (x1l:Nat) (x1c:Nat) (x5p:OA) (x5l:Nat) (x5c:Nat) (x6p:OA) (x6l:Nat) (x6c:Nat) (x7p:OA) (x7l:Nat) (x7c:Nat) (x16:Int) (w:World):Prop :=
 semK PP (Instr.indexAt 29 (.slice x1p x1l x1c) (i6 x16)) w fun v1 w1=>asA v1 fun ad1=>gI .i64 w1 ad1 fun n1=>ifB (decide (((x5l:Nat):Int)=0)) False (ifB (decide ((Int.tmod n1 (x5l:Nat):Int) < 0)) (J4_7 R C_L4_5 x1p x1l x1c x5p x5l x5c x6p x6l x6c x7p x7l x7c x16 (IntKind.wrap .i64 ((Int.tmod n1 (x5l:Nat))+(x5l:Nat))) w1) (J4_7 R C_L4_5 x1p x1l x1c x5p x5l x5c x6p x6l x6c x7p x7l x7c x16 (Int.tmod n1 (x5l:Nat)) w1))
def J4_4 (R:KV) (w:World):Prop :=
 CV 15 #[(.pointer none)] w fun v1 w1=>dT37 v1 fun n1 n2 n3 n4 b1=>zaf w1 (.cells #[(u6 0),(u6 0),(i6 0),(i6 0)] 40) fun w2=>sU 40 ⟨w1.heap.size,0,none⟩ (.agg #[(u6 n1),(u6 n2),(i6 n3),(i6 n4)]) w2 fun w3=>mb38 w3 w1.heap.size fun n5 n6 n7 n8=>ifB (((n5:Int) == 0) && (((n6:Int) == 0) && (((n7:Int) == 0) && ((n8:Int) == 0)))) (R (.bool (!b1)) w3) (R (.bool false) w3)
def L4_5 (R:KV):Nat→OA→Nat→Nat→OA→Nat→Nat→OA→Nat→Nat→OA→Nat→Nat→Int→World→Prop
 | 0=>fun _ _ _ _ _ _ _ _ _ _ _ _ _ _=>False
 | k+1=>fun x1p x1l x1c x5p x5l x5c x6p x6l x6c x7p x7l x7c x16 w=>ifB (decide ((x16:Int) < (x1l:Nat))) (ifB (decide ((x16:Int) < 60)) (ifB (decide (((x5l:Nat):Int) > 0)) (J4_6 R (L4_5 R k) x1p x1l x1c x5p x5l x5c x6p x6l x6c x7p x7l x7c x16 w) (J4_4 R w)) (J4_4 R w)) (J4_4 R w)
def J9_3 (R:KV) (x7:Addr) (x8:Bool) (x12:Addr) (w:World):Prop :=
 ifB (!x8) (ma39 w x12 fun n1 n2 n3 n4=>R (.bool (((n1:Int) == 0) && (((n2:Int) == 0) && (((n3:Int) == 0) && ((n4:Int) == 0))))) w) (zbf w fun w1=>ma39 w1 x12 fun n5 n6 n7 n8=>ma39 w1 x7 fun n9 n10 n11 n12=>CV 18 #[(u6 n9),(u6 1)] w1 fun v13 w2=>asI .u64 v13 fun n13=>(ma39 w2 x12 fun n14 n15 n16 n17=>((.agg #[(u6 n14),(u6 n15),(i6 n16),(i6 n17)]):Value)=(.agg #[(u6 n5),(u6 n6),(i6 n7),(i6 n8)]))∧((gI .u64 w2 (Addr.add x7 1) fun n18=>((u6 n18):Value)=(u6 n10))∧((gI .i64 w2 (Addr.add x7 2) fun n19=>((i6 n19):Value)=(i6 n11))∧((gI .i64 w2 (Addr.add x7 3) fun n20=>((i6 n20):Value)=(i6 n12))∧(CV 18 #[(u6 n10),(u6 1)] w2 fun v21 w3=>asI .u64 v21 fun n21=>(ma39 w3 x12 fun n22 n23 n24 n25=>((.agg #[(u6 n22),(u6 n23),(i6 n24),(i6 n25)]):Value)=(.agg #[(u6 n5),(u6 n6),(i6 n7),(i6 n8)]))∧((gI .i64 w3 (Addr.add x7 2) fun n26=>((i6 n26):Value)=(i6 n11))∧((gI .i64 w3 (Addr.add x7 3) fun n27=>((i6 n27):Value)=(i6 n12))∧(R (.bool (((n5:Int) == n13) && (((n6:Int) == n21) && (((n7:Int) == n11) && ((n8:Int) == n12))))) w3))))))))
def J9_1 (R:KV) (x1:Int) (x5:Addr) (x7:Addr) (x8:Bool) (w:World):Prop :=
 zbf w fun w1=>gL w1 (Addr.add x5 1) fun l1p l1l l1c=>gL w1 (Addr.add x5 1) fun l2p l2l l2c=>semK PP (Instr.indexAt 25 (.slice l2p l2l l2c) (i6 0)) w1 fun v3 w2=>asA v3 fun ad1=>gL w1 ad1 fun l3p l3l l3c=>zaf w1 (.cells #[(.int .u8 91)] 5) fun w3=>(gL w3 (Addr.add x5 1) fun l4p l4l l4c=>((.slice l4p l4l l4c):Value)=(.slice l1p l1l l1c))∧((gL w3 (Addr.add x5 1) fun l5p l5l l5c=>((.slice l5p l5l l5c):Value)=(.slice l2p l2l l2c))∧((gL w3 ad1 fun l6p l6l l6c=>((.slice l6p l6l l6c):Value)=(.slice l3p l3l l3c))∧(semK PP (Builtin.append_ #[22,22] 22 #[(.slice (some ⟨w1.heap.size,0,none⟩) 1 1),(.slice l3p l3l l3c)]) w3 fun v8 w4=>asL v8 fun l7p l7l l7c=>(gL w4 (Addr.add x5 1) fun l8p l8l l8c=>((.slice l8p l8l l8c):Value)=(.slice l1p l1l l1c))∧(semK PP (Instr.indexAt 25 (.slice l1p l1l l1c) (i6 0)) w4 fun v10 w5=>asA v10 fun ad2=>sU 22 ad2 (.slice l7p l7l l7c) w4 fun w6=>ma1 w6 x5 fun l9p l9l l9c l10p l10l l10c l11p l11l l11c l12p l12l l12c n1=>CV 25 #[(.agg #[(.slice l9p l9l l9c),(.slice l10p l10l l10c),(.slice l11p l11l l11c),(.slice l12p l12l l12c),(i6 n1)])] w6 fun v16 w7=>dT4 v16 fun l13p l13l l13c n2=>CV 16 #[(.slice l13p l13l l13c),(i6 x1)] w7 fun v17 w8=>dT40 v17 fun n3 n4 n5 n6 b1 b2=>zaf w8 (.cells #[(u6 0),(u6 0),(i6 0),(i6 0)] 40) fun w9=>sU 40 ⟨w8.heap.size,0,none⟩ (.agg #[(u6 n3),(u6 n4),(i6 n5),(i6 n6)]) w9 fun w10=>ifB ((n2:Int) != 0) (R (.bool false) w10) (ifB (!b2) (R (.bool false) w10) (ifB (!(x8 == b1)) (R (.bool false) w10) (J9_3 R x7 x8 ⟨w8.heap.size,0,none⟩ w10)))))))
def J9_2 (R:KV) (x1:Int) (x5:Addr) (x7:Addr) (x8:Bool) (x53:Bool) (w:World):Prop :=
 ifB x53 (gL w (Addr.add x5 1) fun l1p l1l l1c=>R (.bool (decide (((l1l:Nat):Int) > 0))) w) (J9_1 R x1 x5 x7 x8 w)
def J9_0 (R:KV) (x1:Int) (x5:Addr) (x7:Addr) (x8:Bool) (w:World):Prop :=
 gL w (Addr.add x5 1) fun l1p l1l l1c=>ifB (((l1l:Nat):Int) == 0) (J9_2 R x1 x5 x7 x8 true w) (gL w (Addr.add x5 1) fun l2p l2l l2c=>semK PP (Instr.indexAt 25 (.slice l2p l2l l2c) (i6 0)) w fun v3 w1=>asA v3 fun ad1=>gL w1 ad1 fun l3p l3l l3c=>J9_2 R x1 x5 x7 x8 (decide (((l3l:Nat):Int) ≥ 65535)) w1)
def F9 (a0p:OA) (a0l:Nat) (a0c:Nat) (a1:Int) (w:World) (R:KV):Prop :=
 CV 10 #[] w fun v1 w1=>asB v1 fun b1=>ifB (!b1) (R (.bool false) w1) (ifB (decide (((a0l:Nat):Int) > 6000)) (R (.bool true) w1) (CV 12 #[(.slice a0p a0l a0c)] w1 fun v2 w2=>asL v2 fun l1p l1l l1c=>CV 24 #[(.slice l1p l1l l1c),(.bool false)] w2 fun v3 w3=>dT11 v3 fun l2p l2l l2c l3p l3l l3c l4p l4l l4c l5p l5l l5c n1 n2 l6p l6l l6c n3 n4=>zaf w3 (.cells #[(.slice none 0 0),(.slice none 0 0),(.slice none 0 0),(.slice none 0 0),(i6 0)] 27) fun w4=>zaf w4 (.cells #[(i6 0),(.slice none 0 0),(i6 0),(i6 0)] 31) fun w5=>sU 27 ⟨w3.heap.size,0,none⟩ (.agg #[(.slice l2p l2l l2c),(.slice l3p l3l l3c),(.slice l4p l4l l4c),(.slice l5p l5l l5c),(i6 n1)]) w5 fun w6=>sU 31 ⟨w4.heap.size,0,none⟩ (.agg #[(i6 n2),(.slice l6p l6l l6c),(i6 n3),(i6 n4)]) w6 fun w7=>CV 16 #[(.slice a0p a0l a0c),(i6 a1)] w7 fun v4 w8=>dT40 v4 fun n5 n6 n7 n8 b2 b3=>zaf w8 (.cells #[(u6 0),(u6 0),(i6 0),(i6 0)] 40) fun w9=>sU 40 ⟨w8.heap.size,0,none⟩ (.agg #[(u6 n5),(u6 n6),(i6 n7),(i6 n8)]) w9 fun w10=>gI .i64 w10 ⟨w4.heap.size,0,none⟩ fun n9=>ifB ((n9:Int) != 0) (R (.bool (!b3)) w10) (ifB (!b3) (R (.bool (!b3)) w10) (J9_0 R a1 ⟨w3.heap.size,0,none⟩ ⟨w8.heap.size,0,none⟩ b2 w10))))
def A9 (R:KV):Ann:=(sN (sN (sN (sN (sN (.join (fun e ds w=>nilD ds (aI e 1 fun x1=>asA (e 5) fun x5=>asA (e 7) fun x7=>asB (e 8) fun x8=>J9_0 R x1 x5 x7 x8 w)) .no (.join (fun e ds w=>nilD ds (aI e 1 fun x1=>asA (e 5) fun x5=>asA (e 7) fun x7=>asB (e 8) fun x8=>J9_1 R x1 x5 x7 x8 w)) (.join (fun e ds w=>nilD ds (aI e 1 fun x1=>asA (e 5) fun x5=>asA (e 7) fun x7=>asB (e 8) fun x8=>asB (e 53) fun x53=>J9_2 R x1 x5 x7 x8 x53 w)) .no .no) (.seq (.draw [0,1,3,4,5,6,2,7,8,9]) (sN (sN (.join (fun e ds w=>nilD ds (asA (e 7) fun x7=>asB (e 8) fun x8=>asA (e 12) fun x12=>J9_3 R x7 x8 x12 w)) .no (sN (.seq (.draw [0,1,2,4,5,7,8,9,10,3,6,11,12,13]) .no)))))))))))))
theorem sides9 (R:KV):zak PP Tryz.f9 (A9 R) R:=by
 exact (zt (zt (zt (zt (zt (ai (zsi fun e w h=>eI h fun z1 h=>eA h fun z5 h=>eA h fun z7 h=>eB h fun z8 h=>by rw [← zag (aC z1 (aC z5 (aC z7 (aC z8 aN))))];exact zq h) (zt (ai (zsi fun e w h=>eI h fun z1 h=>eA h fun z5 h=>eA h fun z7 h=>eB h fun z8 h=>by rw [← zag (aC z1 (aC z5 (aC z7 (aC z8 aN))))];exact zq h) (ai (ai (zsi fun e w h=>eI h fun z1 h=>eA h fun z5 h=>eA h fun z7 h=>eB h fun z8 h=>eB h fun z53 h=>by rw [← zag (aC z1 (aC z5 (aC z7 (aC z8 (aC z53 aN)))))];exact zq h) (ai trivial trivial)) (zt (zt (zt (ai (zsi fun e w h=>eA h fun z7 h=>eB h fun z8 h=>eA h fun z12 h=>by rw [← zag (aC z7 (aC z8 (aC z12 aN)))];exact zq h) (zt (zt (ai trivial trivial))))))))))))))))
theorem call9 (a0p:OA) (a0l:Nat) (a0c:Nat) (a1:Int) (w:World) (R:KV) (h:F9 a0p a0l a0c a1 w R):zaj PP 9 #[(.slice a0p a0l a0c),(i6 a1)] w R :=
 zah (an:=A9 R) Tryz.func9 rfl (sides9 R) (Eq.mp (by kernel_rfl) h)

def F10 (w:World) (R:KV):Prop :=
 zaf w (.cells #[(.int .u8 95),(.int .u8 95),(.int .u8 1),(.int .u8 80),(.int .u8 0)] 5) fun w1=>zaf w1 (.cells #[(i6 0),(i6 128),(i6 2),(.slice (some ⟨w.heap.size,0,none⟩) 5 5)] 54) fun w2=>CV 17 #[(.slice (some ⟨w1.heap.size,0,none⟩) 1 1)] w2 fun v1 w3=>asL v1 fun l1p l1l l1c=>CV 16 #[(.slice l1p l1l l1c),(i6 1)] w3 fun v2 w4=>dT40 v2 fun n1 n2 n3 n4 b1 b2=>zaf w4 (.cells #[(u6 0),(u6 0),(i6 0),(i6 0)] 40) fun w5=>sU 40 ⟨w4.heap.size,0,none⟩ (.agg #[(u6 n1),(u6 n2),(i6 n3),(i6 n4)]) w5 fun w6=>zaf w6 (.cells #[(.int .u8 224),(.int .u8 255),(.int .u8 253)] 5) fun w7=>zaf w7 (.cells #[(i6 0),(i6 128),(i6 0),(.slice (some ⟨w6.heap.size,0,none⟩) 3 3)] 54) fun w8=>CV 17 #[(.slice (some ⟨w7.heap.size,0,none⟩) 1 1)] w8 fun v3 w9=>asL v3 fun l2p l2l l2c=>CV 16 #[(.slice l2p l2l l2c),(i6 1)] w9 fun v4 w10=>dT40 v4 fun n5 n6 n7 n8 b3 b4=>zaf w10 (.cells #[(u6 0),(u6 0),(i6 0),(i6 0)] 40) fun w11=>sU 40 ⟨w10.heap.size,0,none⟩ (.agg #[(u6 n5),(u6 n6),(i6 n7),(i6 n8)]) w11 fun w12=>ifB b1 (ifB b2 (mb38 w12 w4.heap.size fun n9 n10 n11 n12=>ifB (((n9:Int) == 5) && (((n10:Int) == 9) && (((n11:Int) == 2) && ((n12:Int) == 0)))) (ifB (!b3) (ifB b4 (mb38 w12 w10.heap.size fun n13 n14 n15 n16=>R (.bool (((n13:Int) == 0) && (((n14:Int) == 0) && (((n15:Int) == 0) && ((n16:Int) == 0))))) w12) (R (.bool false) w12)) (R (.bool false) w12)) (R (.bool false) w12)) (R (.bool false) w12)) (R (.bool false) w12)
def A10 (R:KV):Ann:=.no
theorem sides10 (R:KV):zak PP Tryz.f10 (A10 R) R:=by
 trivial
theorem call10 (w:World) (R:KV) (h:F10 w R):zaj PP 10 #[] w R :=
 zah (an:=A10 R) Tryz.func10 rfl (sides10 R) (Eq.mp (by kernel_rfl) h)

def F12 (a0p:OA) (a0l:Nat) (a0c:Nat) (w:World) (R:KV):Prop :=
 semK PP (Builtin.append_ #[22,22] 22 #[(.slice none 0 0),(.slice a0p a0l a0c)]) w fun v1 w1=>asL v1 fun l1p l1l l1c=>R (.slice l1p l1l l1c) w1
def A12 (R:KV):Ann:=.no
theorem sides12 (R:KV):zak PP Tryz.f12 (A12 R) R:=by
 trivial
theorem call12 (a0p:OA) (a0l:Nat) (a0c:Nat) (w:World) (R:KV) (h:F12 a0p a0l a0c w R):zaj PP 12 #[(.slice a0p a0l a0c)] w R :=
 zah (an:=A12 R) Tryz.func12 rfl (sides12 R) (Eq.mp (by kernel_rfl) h)

def J13_1 (R:KV) (x1:Int) (x5:Addr) (x6p:OA) (x6l:Nat) (x6c:Nat) (x7:Addr) (x8:Addr) (w:World):Prop :=
 gI .i64 w x8 fun n1=>ifB ((n1:Int) != 0) (zbf w fun w1=>ma2 w1 x8 fun n2 l1p l1l l1c n3 n4=>sU 31 x5 (.agg #[(i6 n2),(.slice l1p l1l l1c),(i6 n3),(i6 n4)]) w1 fun w2=>ma2 w2 x5 fun n5 l2p l2l l2c n6 n7=>R (.tuple #[(.pointer none),(.agg #[(i6 n5),(.slice l2p l2l l2c),(i6 n6),(i6 n7)])]) w2) (ma1 w x7 fun l3p l3l l3c l4p l4l l4c l5p l5l l5c l6p l6l l6c n8=>CV 30 #[(.slice x6p x6l x6c),(.agg #[(.slice l3p l3l l3c),(.slice l4p l4l l4c),(.slice l5p l5l l5c),(.slice l6p l6l l6c),(i6 n8)]),(i6 x1)] w fun v15 w3=>asP v15 fun p1=>sU 31 x5 (.agg #[(i6 0),(.slice none 0 0),(i6 0),(i6 0)]) w3 fun w4=>ma2 w4 x5 fun n9 l7p l7l l7c n10 n11=>R (.tuple #[(.pointer p1),(.agg #[(i6 n9),(.slice l7p l7l l7c),(i6 n10),(i6 n11)])]) w4)
def J13_0 (R:KV) (x0p:OA) (x0l:Nat) (x0c:Nat) (x1:Int) (x5:Addr) (w:World):Prop :=
 CV 28 #[(.slice x0p x0l x0c)] w fun v1 w1=>asL v1 fun l1p l1l l1c=>CV 24 #[(.slice l1p l1l l1c),(.bool false)] w1 fun v2 w2=>dT11 v2 fun l2p l2l l2c l3p l3l l3c l4p l4l l4c l5p l5l l5c n1 n2 l6p l6l l6c n3 n4=>zaf w2 (.cells #[(.slice none 0 0),(.slice none 0 0),(.slice none 0 0),(.slice none 0 0),(i6 0)] 27) fun w3=>zaf w3 (.cells #[(i6 0),(.slice none 0 0),(i6 0),(i6 0)] 31) fun w4=>sU 27 ⟨w2.heap.size,0,none⟩ (.agg #[(.slice l2p l2l l2c),(.slice l3p l3l l3c),(.slice l4p l4l l4c),(.slice l5p l5l l5c),(i6 n1)]) w4 fun w5=>sU 31 ⟨w3.heap.size,0,none⟩ (.agg #[(i6 n2),(.slice l6p l6l l6c),(i6 n3),(i6 n4)]) w5 fun w6=>gI .i64 w6 ⟨w3.heap.size,0,none⟩ fun n5=>ifB ((n5:Int) == 0) (mb5 w6 w2.heap.size fun l7p l7l l7c l8p l8l l8c l9p l9l l9c l10p l10l l10c n6=>CV 29 #[(.agg #[(.slice l7p l7l l7c),(.slice l8p l8l l8c),(.slice l9p l9l l9c),(.slice l10p l10l l10c),(i6 n6)]),(i6 x1)] w6 fun v9 w7=>dG10 v9 fun n7 l11p l11l l11c n8 n9=>sU 31 ⟨w3.heap.size,0,none⟩ (.agg #[(i6 n7),(.slice l11p l11l l11c),(i6 n8),(i6 n9)]) w7 fun w8=>J13_1 R x1 x5 l1p l1l l1c ⟨w2.heap.size,0,none⟩ ⟨w3.heap.size,0,none⟩ w8) (J13_1 R x1 x5 l1p l1l l1c ⟨w2.heap.size,0,none⟩ ⟨w3.heap.size,0,none⟩ w6)
def F13 (a0p:OA) (a0l:Nat) (a0c:Nat) (a1:Int) (w:World) (R:KV):Prop :=
 zaf w (.cells #[(i6 0),(.slice none 0 0),(i6 0),(i6 0)] 31) fun w1=>ifB ((a1:Int) != 1) (ifB ((a1:Int) != 2) (sU 31 ⟨w.heap.size,0,none⟩ (.agg #[(i6 1),(.slice none 0 0),(i6 0),(i6 0)]) w1 fun w2=>mb6 w2 w.heap.size fun n1 l1p l1l l1c n2 n3=>R (.tuple #[(.pointer none),(.agg #[(i6 n1),(.slice l1p l1l l1c),(i6 n2),(i6 n3)])]) w2) (J13_0 R a0p a0l a0c a1 ⟨w.heap.size,0,none⟩ w1)) (J13_0 R a0p a0l a0c a1 ⟨w.heap.size,0,none⟩ w1)
def A13 (R:KV):Ann:=(sN (.join (fun e ds w=>nilD ds (asL (e 0) fun x0p x0l x0c=>aI e 1 fun x1=>asA (e 5) fun x5=>J13_0 R x0p x0l x0c x1 x5 w)) .no (sN (sN (.join (fun e ds w=>nilD ds (aI e 1 fun x1=>asA (e 5) fun x5=>asL (e 6) fun x6p x6l x6c=>asA (e 7) fun x7=>asA (e 8) fun x8=>J13_1 R x1 x5 x6p x6l x6c x7 x8 w)) .no (.seq (sN (.cond (.seq (.draw [0,1,2]) .no) .no)) .no))))))
theorem sides13 (R:KV):zak PP Tryz.f13 (A13 R) R:=by
 exact (zt (ai (zsi fun e w h=>eL h fun z0 h=>eI h fun z1 h=>eA h fun z5 h=>by rw [← zag (aC z0 (aC z1 (aC z5 aN)))];exact zq h) (zt (zt (zt (ai (zsi fun e w h=>eI h fun z1 h=>eA h fun z5 h=>eL h fun z6 h=>eA h fun z7 h=>eA h fun z8 h=>by rw [← zag (aC z1 (aC z5 (aC z6 (aC z7 (aC z8 aN)))))];exact zq h) (zt (ai (zt (ai (ai trivial trivial) trivial)) trivial))))))))
theorem call13 (a0p:OA) (a0l:Nat) (a0c:Nat) (a1:Int) (w:World) (R:KV) (h:F13 a0p a0l a0c a1 w R):zaj PP 13 #[(.slice a0p a0l a0c),(i6 a1)] w R :=
 zah (an:=A13 R) Tryz.func13 rfl (sides13 R) (Eq.mp (by kernel_rfl) h)

def J15_0 (R:KV) (x2:Addr) (x5:Addr) (x6:Addr) (w:World):Prop :=
 ma41 w x5 fun n1 n2=>ma33 w x6 fun n3 n4=>sU 40 x2 (.agg #[(u6 n1),(u6 n2),(i6 n3),(i6 n4)]) w fun w1=>ma39 w1 x2 fun n5 n6 n7 n8=>R (.tuple #[(.agg #[(u6 n5),(u6 n6),(i6 n7),(i6 n8)]),(.bool true)]) w1
def F15 (a0:OA) (w:World) (R:KV):Prop :=
 zaf w (.cells #[(u6 0),(u6 0),(i6 0),(i6 0)] 40) fun w1=>ifB (Option.isNone a0) (sU 40 ⟨w.heap.size,0,none⟩ (.agg #[(u6 0),(u6 0),(i6 0),(i6 0)]) w1 fun w2=>mb38 w2 w.heap.size fun n1 n2 n3 n4=>R (.tuple #[(.agg #[(u6 n1),(u6 n2),(i6 n3),(i6 n4)]),(.bool false)]) w2) (zaf w1 (.map #[] 0) fun w3=>zaf w3 (.map #[] 0) fun w4=>zaf w4 (.cells #[(.pointer a0),(.map (some w1.heap.size)),(.map (some w3.heap.size))] 90) fun w5=>CV 35 #[(.pointer (some ⟨w4.heap.size,0,none⟩)),(i6 0)] w5 fun v5 w6=>asB v5 fun b1=>ifB (!b1) (sU 40 ⟨w.heap.size,0,none⟩ (.agg #[(u6 0),(u6 0),(i6 0),(i6 0)]) w6 fun w7=>mb38 w7 w.heap.size fun n5 n6 n7 n8=>R (.tuple #[(.agg #[(u6 n5),(u6 n6),(i6 n7),(i6 n8)]),(.bool false)]) w7) (zbf w6 fun w8=>ldK PP w8 ⟨w4.heap.size,1,none⟩ fun v10=>asM v10 fun m1=>ldK PP w8 ⟨w4.heap.size,2,none⟩ fun v11=>asM v11 fun m2=>semK PP (Instr.lookup 88 (.map m2) (i6 0) false) w8 fun v12 w9=>dG27 v12 fun n9 n10 b2=>(semK PP (Instr.lookup 87 (.map m1) (.agg #[(i6 0),(i6 0)]) false) w8 fun v51 w42=>dG17 v51 fun n55 n56 b25 n57 n58 b26=>(ldK PP w42 ⟨w4.heap.size,2,none⟩ fun v52=>asM v52 fun m23=>((.map m23):Value)=(.map m2))∧((semK PP (Instr.lookup 88 (.map m2) (i6 0) false) w42 fun v53 w43=>dG27 v53 fun n59 n60 b27=>((.agg #[(i6 n59),(i6 n60),(.bool b27)]):Value)=(.agg #[(i6 n9),(i6 n10),(.bool b2)]))∧((zaf w42 (.cells #[(u6 0),(u6 0),(.bool false)] 93) fun w51=>(ldK PP w51 ⟨w4.heap.size,1,none⟩ fun v62=>asM v62 fun m29=>((.map m29):Value)=(.map m1))∧((ldK PP w51 ⟨w4.heap.size,2,none⟩ fun v63=>asM v63 fun m30=>((.map m30):Value)=(.map m2))∧((semK PP (Instr.lookup 88 (.map m2) (i6 0) false) w51 fun v64 w52=>dG27 v64 fun n67 n68 b31=>((.agg #[(i6 n67),(i6 n68),(.bool b31)]):Value)=(.agg #[(i6 n9),(i6 n10),(.bool b2)]))∧((zaf w51 (.cells #[(i6 0),(i6 0),(.bool false)] 99) fun w53=>(ldK PP w53 ⟨w4.heap.size,1,none⟩ fun v65=>asM v65 fun m31=>((.map m31):Value)=(.map m1))∧((ldK PP w53 ⟨w4.heap.size,2,none⟩ fun v66=>asM v66 fun m32=>((.map m32):Value)=(.map m2))∧((semK PP (Instr.lookup 88 (.map m2) (i6 0) false) w53 fun v67 w54=>dG27 v67 fun n69 n70 b32=>((.agg #[(i6 n69),(i6 n70),(.bool b32)]):Value)=(.agg #[(i6 n9),(i6 n10),(.bool b2)]))∧((sU 93 ⟨w42.heap.size,0,none⟩ (.agg #[(u6 n57),(u6 n58),(.bool b26)]) w53 fun w55=>(ldK PP w55 ⟨w4.heap.size,2,none⟩ fun v68=>asM v68 fun m33=>((.map m33):Value)=(.map m2))∧((semK PP (Instr.lookup 88 (.map m2) (i6 0) false) w55 fun v69 w56=>dG27 v69 fun n71 n72 b33=>((.agg #[(i6 n71),(i6 n72),(.bool b33)]):Value)=(.agg #[(i6 n9),(i6 n10),(.bool b2)]))∧((sU 99 ⟨w51.heap.size,0,none⟩ (.agg #[(i6 n9),(i6 n10),(.bool b2)]) w55 fun w57=>J15_0 R ⟨w.heap.size,0,none⟩ ⟨w42.heap.size,0,none⟩ ⟨w51.heap.size,0,none⟩ w57)∧(True))))∧(True)))))∧(True)))))∧((zaf w42 (.cells #[(i6 0),(i6 0),(.bool false)] 99) fun w44=>(ldK PP w44 ⟨w4.heap.size,1,none⟩ fun v54=>asM v54 fun m24=>((.map m24):Value)=(.map m1))∧((ldK PP w44 ⟨w4.heap.size,2,none⟩ fun v55=>asM v55 fun m25=>((.map m25):Value)=(.map m2))∧((semK PP (Instr.lookup 88 (.map m2) (i6 0) false) w44 fun v56 w45=>dG27 v56 fun n61 n62 b28=>((.agg #[(i6 n61),(i6 n62),(.bool b28)]):Value)=(.agg #[(i6 n9),(i6 n10),(.bool b2)]))∧((zaf w44 (.cells #[(u6 0),(u6 0),(.bool false)] 93) fun w46=>(ldK PP w46 ⟨w4.heap.size,1,none⟩ fun v57=>asM v57 fun m26=>((.map m26):Value)=(.map m1))∧((ldK PP w46 ⟨w4.heap.size,2,none⟩ fun v58=>asM v58 fun m27=>((.map m27):Value)=(.map m2))∧((semK PP (Instr.lookup 88 (.map m2) (i6 0) false) w46 fun v59 w47=>dG27 v59 fun n63 n64 b29=>((.agg #[(i6 n63),(i6 n64),(.bool b29)]):Value)=(.agg #[(i6 n9),(i6 n10),(.bool b2)]))∧((sU 93 ⟨w44.heap.size,0,none⟩ (.agg #[(u6 n57),(u6 n58),(.bool b26)]) w46 fun w48=>(ldK PP w48 ⟨w4.heap.size,2,none⟩ fun v60=>asM v60 fun m28=>((.map m28):Value)=(.map m2))∧((semK PP (Instr.lookup 88 (.map m2) (i6 0) false) w48 fun v61 w49=>dG27 v61 fun n65 n66 b30=>((.agg #[(i6 n65),(i6 n66),(.bool b30)]):Value)=(.agg #[(i6 n9),(i6 n10),(.bool b2)]))∧((sU 99 ⟨w42.heap.size,0,none⟩ (.agg #[(i6 n9),(i6 n10),(.bool b2)]) w48 fun w50=>J15_0 R ⟨w.heap.size,0,none⟩ ⟨w44.heap.size,0,none⟩ ⟨w42.heap.size,0,none⟩ w50)∧(True))))∧(True)))))∧(True)))))∧(True)))))∧((zaf w8 (.cells #[(u6 0),(u6 0),(.bool false)] 93) fun w26=>(ldK PP w26 ⟨w4.heap.size,1,none⟩ fun v32=>asM v32 fun m13=>((.map m13):Value)=(.map m1))∧((ldK PP w26 ⟨w4.heap.size,2,none⟩ fun v33=>asM v33 fun m14=>((.map m14):Value)=(.map m2))∧((semK PP (Instr.lookup 88 (.map m2) (i6 0) false) w26 fun v34 w27=>dG27 v34 fun n33 n34 b14=>((.agg #[(i6 n33),(i6 n34),(.bool b14)]):Value)=(.agg #[(i6 n9),(i6 n10),(.bool b2)]))∧((semK PP (Instr.lookup 87 (.map m1) (.agg #[(i6 0),(i6 0)]) false) w26 fun v43 w35=>dG17 v43 fun n45 n46 b20 n47 n48 b21=>(ldK PP w35 ⟨w4.heap.size,2,none⟩ fun v44=>asM v44 fun m19=>((.map m19):Value)=(.map m2))∧((semK PP (Instr.lookup 88 (.map m2) (i6 0) false) w35 fun v45 w36=>dG27 v45 fun n49 n50 b22=>((.agg #[(i6 n49),(i6 n50),(.bool b22)]):Value)=(.agg #[(i6 n9),(i6 n10),(.bool b2)]))∧((zaf w35 (.cells #[(i6 0),(i6 0),(.bool false)] 99) fun w37=>(ldK PP w37 ⟨w4.heap.size,1,none⟩ fun v46=>asM v46 fun m20=>((.map m20):Value)=(.map m1))∧((ldK PP w37 ⟨w4.heap.size,2,none⟩ fun v47=>asM v47 fun m21=>((.map m21):Value)=(.map m2))∧((semK PP (Instr.lookup 88 (.map m2) (i6 0) false) w37 fun v48 w38=>dG27 v48 fun n51 n52 b23=>((.agg #[(i6 n51),(i6 n52),(.bool b23)]):Value)=(.agg #[(i6 n9),(i6 n10),(.bool b2)]))∧((sU 93 ⟨w8.heap.size,0,none⟩ (.agg #[(u6 n47),(u6 n48),(.bool b21)]) w37 fun w39=>(ldK PP w39 ⟨w4.heap.size,2,none⟩ fun v49=>asM v49 fun m22=>((.map m22):Value)=(.map m2))∧((semK PP (Instr.lookup 88 (.map m2) (i6 0) false) w39 fun v50 w40=>dG27 v50 fun n53 n54 b24=>((.agg #[(i6 n53),(i6 n54),(.bool b24)]):Value)=(.agg #[(i6 n9),(i6 n10),(.bool b2)]))∧((sU 99 ⟨w35.heap.size,0,none⟩ (.agg #[(i6 n9),(i6 n10),(.bool b2)]) w39 fun w41=>J15_0 R ⟨w.heap.size,0,none⟩ ⟨w8.heap.size,0,none⟩ ⟨w35.heap.size,0,none⟩ w41)∧(True))))∧(True)))))∧(True))))∧((zaf w26 (.cells #[(i6 0),(i6 0),(.bool false)] 99) fun w28=>(ldK PP w28 ⟨w4.heap.size,1,none⟩ fun v35=>asM v35 fun m15=>((.map m15):Value)=(.map m1))∧((ldK PP w28 ⟨w4.heap.size,2,none⟩ fun v36=>asM v36 fun m16=>((.map m16):Value)=(.map m2))∧((semK PP (Instr.lookup 88 (.map m2) (i6 0) false) w28 fun v37 w29=>dG27 v37 fun n35 n36 b15=>((.agg #[(i6 n35),(i6 n36),(.bool b15)]):Value)=(.agg #[(i6 n9),(i6 n10),(.bool b2)]))∧((semK PP (Instr.lookup 87 (.map m1) (.agg #[(i6 0),(i6 0)]) false) w28 fun v38 w30=>dG17 v38 fun n37 n38 b16 n39 n40 b17=>(ldK PP w30 ⟨w4.heap.size,2,none⟩ fun v39=>asM v39 fun m17=>((.map m17):Value)=(.map m2))∧((semK PP (Instr.lookup 88 (.map m2) (i6 0) false) w30 fun v40 w31=>dG27 v40 fun n41 n42 b18=>((.agg #[(i6 n41),(i6 n42),(.bool b18)]):Value)=(.agg #[(i6 n9),(i6 n10),(.bool b2)]))∧((sU 93 ⟨w8.heap.size,0,none⟩ (.agg #[(u6 n39),(u6 n40),(.bool b17)]) w30 fun w32=>(ldK PP w32 ⟨w4.heap.size,2,none⟩ fun v41=>asM v41 fun m18=>((.map m18):Value)=(.map m2))∧((semK PP (Instr.lookup 88 (.map m2) (i6 0) false) w32 fun v42 w33=>dG27 v42 fun n43 n44 b19=>((.agg #[(i6 n43),(i6 n44),(.bool b19)]):Value)=(.agg #[(i6 n9),(i6 n10),(.bool b2)]))∧((sU 99 ⟨w26.heap.size,0,none⟩ (.agg #[(i6 n9),(i6 n10),(.bool b2)]) w32 fun w34=>J15_0 R ⟨w.heap.size,0,none⟩ ⟨w8.heap.size,0,none⟩ ⟨w26.heap.size,0,none⟩ w34)∧(True))))∧(True))))∧(True)))))∧(True))))))∧((zaf w8 (.cells #[(i6 0),(i6 0),(.bool false)] 99) fun w10=>(ldK PP w10 ⟨w4.heap.size,1,none⟩ fun v13=>asM v13 fun m3=>((.map m3):Value)=(.map m1))∧((ldK PP w10 ⟨w4.heap.size,2,none⟩ fun v14=>asM v14 fun m4=>((.map m4):Value)=(.map m2))∧((semK PP (Instr.lookup 88 (.map m2) (i6 0) false) w10 fun v15 w11=>dG27 v15 fun n11 n12 b3=>((.agg #[(i6 n11),(i6 n12),(.bool b3)]):Value)=(.agg #[(i6 n9),(i6 n10),(.bool b2)]))∧((semK PP (Instr.lookup 87 (.map m1) (.agg #[(i6 0),(i6 0)]) false) w10 fun v24 w19=>dG17 v24 fun n23 n24 b9 n25 n26 b10=>(ldK PP w19 ⟨w4.heap.size,2,none⟩ fun v25=>asM v25 fun m9=>((.map m9):Value)=(.map m2))∧((semK PP (Instr.lookup 88 (.map m2) (i6 0) false) w19 fun v26 w20=>dG27 v26 fun n27 n28 b11=>((.agg #[(i6 n27),(i6 n28),(.bool b11)]):Value)=(.agg #[(i6 n9),(i6 n10),(.bool b2)]))∧((zaf w19 (.cells #[(u6 0),(u6 0),(.bool false)] 93) fun w21=>(ldK PP w21 ⟨w4.heap.size,1,none⟩ fun v27=>asM v27 fun m10=>((.map m10):Value)=(.map m1))∧((ldK PP w21 ⟨w4.heap.size,2,none⟩ fun v28=>asM v28 fun m11=>((.map m11):Value)=(.map m2))∧((semK PP (Instr.lookup 88 (.map m2) (i6 0) false) w21 fun v29 w22=>dG27 v29 fun n29 n30 b12=>((.agg #[(i6 n29),(i6 n30),(.bool b12)]):Value)=(.agg #[(i6 n9),(i6 n10),(.bool b2)]))∧((sU 93 ⟨w19.heap.size,0,none⟩ (.agg #[(u6 n25),(u6 n26),(.bool b10)]) w21 fun w23=>(ldK PP w23 ⟨w4.heap.size,2,none⟩ fun v30=>asM v30 fun m12=>((.map m12):Value)=(.map m2))∧((semK PP (Instr.lookup 88 (.map m2) (i6 0) false) w23 fun v31 w24=>dG27 v31 fun n31 n32 b13=>((.agg #[(i6 n31),(i6 n32),(.bool b13)]):Value)=(.agg #[(i6 n9),(i6 n10),(.bool b2)]))∧((sU 99 ⟨w8.heap.size,0,none⟩ (.agg #[(i6 n9),(i6 n10),(.bool b2)]) w23 fun w25=>J15_0 R ⟨w.heap.size,0,none⟩ ⟨w19.heap.size,0,none⟩ ⟨w8.heap.size,0,none⟩ w25)∧(True))))∧(True)))))∧(True))))∧((zaf w10 (.cells #[(u6 0),(u6 0),(.bool false)] 93) fun w12=>(ldK PP w12 ⟨w4.heap.size,1,none⟩ fun v16=>asM v16 fun m5=>((.map m5):Value)=(.map m1))∧((ldK PP w12 ⟨w4.heap.size,2,none⟩ fun v17=>asM v17 fun m6=>((.map m6):Value)=(.map m2))∧((semK PP (Instr.lookup 88 (.map m2) (i6 0) false) w12 fun v18 w13=>dG27 v18 fun n13 n14 b4=>((.agg #[(i6 n13),(i6 n14),(.bool b4)]):Value)=(.agg #[(i6 n9),(i6 n10),(.bool b2)]))∧((semK PP (Instr.lookup 87 (.map m1) (.agg #[(i6 0),(i6 0)]) false) w12 fun v19 w14=>dG17 v19 fun n15 n16 b5 n17 n18 b6=>(ldK PP w14 ⟨w4.heap.size,2,none⟩ fun v20=>asM v20 fun m7=>((.map m7):Value)=(.map m2))∧((semK PP (Instr.lookup 88 (.map m2) (i6 0) false) w14 fun v21 w15=>dG27 v21 fun n19 n20 b7=>((.agg #[(i6 n19),(i6 n20),(.bool b7)]):Value)=(.agg #[(i6 n9),(i6 n10),(.bool b2)]))∧((sU 93 ⟨w10.heap.size,0,none⟩ (.agg #[(u6 n17),(u6 n18),(.bool b6)]) w14 fun w16=>(ldK PP w16 ⟨w4.heap.size,2,none⟩ fun v22=>asM v22 fun m8=>((.map m8):Value)=(.map m2))∧((semK PP (Instr.lookup 88 (.map m2) (i6 0) false) w16 fun v23 w17=>dG27 v23 fun n21 n22 b8=>((.agg #[(i6 n21),(i6 n22),(.bool b8)]):Value)=(.agg #[(i6 n9),(i6 n10),(.bool b2)]))∧((sU 99 ⟨w8.heap.size,0,none⟩ (.agg #[(i6 n9),(i6 n10),(.bool b2)]) w16 fun w18=>J15_0 R ⟨w.heap.size,0,none⟩ ⟨w10.heap.size,0,none⟩ ⟨w8.heap.size,0,none⟩ w18)∧(True))))∧(True))))∧(True)))))∧(True))))))∧(True)))))
def A15 (R:KV):Ann:=(sN (sN (sN (sN (.join (fun e ds w=>nilD ds (asA (e 2) fun x2=>asA (e 5) fun x5=>asA (e 6) fun x6=>J15_0 R x2 x5 x6 w)) (.drawT (.light 0 (.light 1 (.light 2 (.light 3 (.light 4 (.light 7 (.light 8 (.light 9 (.light 10 (.light 11 (.alt 5 (.light 6 (.alt 12 (.alt 13 (.alt 14 (.alt 15 .done .none) .none) .none) (.alt 13 (.alt 12 (.alt 14 (.alt 15 .done .none) .none) .none) .none))) (.alt 12 (.alt 5 (.light 6 (.alt 13 (.alt 14 (.alt 15 .done .none) .none) .none)) (.alt 13 (.alt 5 (.light 6 (.alt 14 (.alt 15 .done .none) .none)) .none) .none)) (.alt 13 (.alt 5 (.light 6 (.alt 12 (.alt 14 (.alt 15 .done .none) .none) .none)) (.alt 12 (.alt 5 (.light 6 (.alt 14 (.alt 15 .done .none) .none)) .none) .none)) .none)))))))))))))) .no)))))
theorem sides15 (R:KV):zak PP Tryz.f15 (A15 R) R:=by
 exact (zt (zt (zt (zt (ai (zsi fun e w h=>eA h fun z2 h=>eA h fun z5 h=>eA h fun z6 h=>by rw [← zag (aC z2 (aC z5 (aC z6 aN)))];exact zq h) (ai trivial trivial))))))
theorem call15 (a0:OA) (w:World) (R:KV) (h:F15 a0 w R):zaj PP 15 #[(.pointer a0)] w R :=
 zah (an:=A15 R) Tryz.func15 rfl (sides15 R) (Eq.mp (by kernel_rfl) h)

def J16_0 (R:KV) (x4:Addr) (x7:OA) (w:World):Prop :=
 CV 15 #[(.pointer x7)] w fun v1 w1=>dT37 v1 fun n1 n2 n3 n4 b1=>sU 40 x4 (.agg #[(u6 n1),(u6 n2),(i6 n3),(i6 n4)]) w1 fun w2=>ma39 w2 x4 fun n5 n6 n7 n8=>sU 40 x4 (.agg #[(u6 n5),(u6 n6),(i6 n7),(i6 n8)]) w2 fun w3=>ma39 w3 x4 fun n9 n10 n11 n12=>R (.tuple #[(.agg #[(u6 n9),(u6 n10),(i6 n11),(i6 n12)]),(.bool b1),(.bool true)]) w3
def F16 (a0p:OA) (a0l:Nat) (a0c:Nat) (a1:Int) (w:World) (R:KV):Prop :=
 zaf w (.cells #[(u6 0),(u6 0),(i6 0),(i6 0)] 40) fun w1=>CV 12 #[(.slice a0p a0l a0c)] w1 fun v1 w2=>asL v1 fun l1p l1l l1c=>CV 13 #[(.slice l1p l1l l1c),(i6 a1)] w2 fun v2 w3=>dT42 v2 fun p1 n1 l2p l2l l2c n2 n3=>zaf w3 (.cells #[(i6 0),(.slice none 0 0),(i6 0),(i6 0)] 31) fun w4=>sU 31 ⟨w3.heap.size,0,none⟩ (.agg #[(i6 n1),(.slice l2p l2l l2c),(i6 n2),(i6 n3)]) w4 fun w5=>gI .i64 w5 ⟨w3.heap.size,0,none⟩ fun n4=>ifB ((n4:Int) != 0) (sU 40 ⟨w.heap.size,0,none⟩ (.agg #[(u6 0),(u6 0),(i6 0),(i6 0)]) w5 fun w6=>mb38 w6 w.heap.size fun n5 n6 n7 n8=>R (.tuple #[(.agg #[(u6 n5),(u6 n6),(i6 n7),(i6 n8)]),(.bool false),(.bool false)]) w6) (ifB (Option.isNone p1) (sU 40 ⟨w.heap.size,0,none⟩ (.agg #[(u6 0),(u6 0),(i6 0),(i6 0)]) w5 fun w7=>mb38 w7 w.heap.size fun n9 n10 n11 n12=>R (.tuple #[(.agg #[(u6 n9),(u6 n10),(i6 n11),(i6 n12)]),(.bool false),(.bool false)]) w7) (J16_0 R ⟨w.heap.size,0,none⟩ p1 w5))
def A16 (R:KV):Ann:=(sN (sN (.join (fun e ds w=>nilD ds (asA (e 4) fun x4=>asP (e 7) fun x7=>J16_0 R x4 x7 w)) .no .no)))
theorem sides16 (R:KV):zak PP Tryz.f16 (A16 R) R:=by
 exact (zt (zt (ai (zsi fun e w h=>eA h fun z4 h=>eP h fun z7 h=>by rw [← zag (aC z4 (aC z7 aN))];exact zq h) (ai trivial trivial))))
theorem call16 (a0p:OA) (a0l:Nat) (a0c:Nat) (a1:Int) (w:World) (R:KV) (h:F16 a0p a0l a0c a1 w R):zaj PP 16 #[(.slice a0p a0l a0c),(i6 a1)] w R :=
 zah (an:=A16 R) Tryz.func16 rfl (sides16 R) (Eq.mp (by kernel_rfl) h)

def L17_4 (R:KV):Nat→OA→Nat→Nat→Int→OA→Nat→Nat→Int→World→Prop
 | 0=>fun _ _ _ _ _ _ _ _ _=>False
 | k+1=>fun x0p x0l x0c x3 x4p x4l x4c x7 w=>ifB (decide ((x7:Int) < x3)) (semK PP (Instr.indexAt 49 (.slice x0p x0l x0c) (i6 x7)) w fun v1 w1=>asA v1 fun ad1=>gL w1 (Addr.add ad1 3) fun l1p l1l l1c=>semK PP (Builtin.append_ #[22,22] 22 #[(.slice x4p x4l x4c),(.slice l1p l1l l1c)]) w1 fun v3 w2=>asL v3 fun l2p l2l l2c=>L17_4 R k x0p x0l x0c x3 l2p l2l l2c (IntKind.wrap .i64 (x7+1)) w2) (R (.slice x4p x4l x4c) w)
def J17_2 (R:KV) (x0p:OA) (x0l:Nat) (x0c:Nat) (x3:Int) (x4p:OA) (x4l:Nat) (x4c:Nat) (w:World):Prop :=
 ∃ m,L17_4 R m x0p x0l x0c x3 x4p x4l x4c 0 w
def L17_3 (R:KV):Nat→OA→Nat→Nat→Int→OA→Nat→Nat→Int→World→Prop
 | 0=>fun _ _ _ _ _ _ _ _ _=>False
 | k+1=>fun x0p x0l x0c x3 x4p x4l x4c x6 w=>ifB (decide ((x6:Int) < x3)) (zbf w fun w1=>semK PP (Instr.indexAt 49 (.slice x0p x0l x0c) (i6 x6)) w1 fun v1 w2=>asA v1 fun ad1=>gI .i64 w1 ad1 fun n1=>semK PP (Instr.indexAt 49 (.slice x0p x0l x0c) (i6 x6)) w1 fun v3 w3=>asA v3 fun ad2=>gI .i64 w1 (Addr.add ad2 1) fun n2=>semK PP (Instr.indexAt 49 (.slice x0p x0l x0c) (i6 x6)) w1 fun v5 w4=>asA v5 fun ad3=>gI .i64 w1 (Addr.add ad3 2) fun n3=>semK PP (Instr.indexAt 49 (.slice x0p x0l x0c) (i6 x6)) w1 fun v7 w5=>asA v7 fun ad4=>gI .i64 w1 (Addr.add ad4 2) fun n4=>zaf w1 (.cells #[(.int .u8 (IntKind.wrap .u8 n1)),(.int .u8 (IntKind.wrap .u8 n2)),(.int .u8 (IntKind.wrap .u8 (Int.fdiv n3 (2 ^ (min (8:Int).toNat 64))))),(.int .u8 (IntKind.wrap .u8 n4))] 5) fun w6=>semK PP (Builtin.append_ #[22,22] 22 #[(.slice x4p x4l x4c),(.slice (some ⟨w1.heap.size,0,none⟩) 4 4)]) w6 fun v9 w7=>asL v9 fun l1p l1l l1c=>L17_3 R k x0p x0l x0c x3 l1p l1l l1c (IntKind.wrap .i64 (x6+1)) w7) (J17_2 R x0p x0l x0c x3 x4p x4l x4c w)
def J17_0 (R:KV) (x0p:OA) (x0l:Nat) (x0c:Nat) (x3:Int) (x4p:OA) (x4l:Nat) (x4c:Nat) (w:World):Prop :=
 zaf w (.cells #[(.int .u8 255),(.int .u8 0),(.int .u8 0),(.int .u8 0)] 5) fun w1=>semK PP (Builtin.append_ #[22,22] 22 #[(.slice x4p x4l x4c),(.slice (some ⟨w.heap.size,0,none⟩) 4 4)]) w1 fun v1 w2=>asL v1 fun l1p l1l l1c=>∃ m,L17_3 R m x0p x0l x0c x3 l1p l1l l1c 0 w2
def L17_1 (R:KV):Nat→OA→Nat→Nat→Int→OA→Nat→Nat→Int→World→Prop
 | 0=>fun _ _ _ _ _ _ _ _ _=>False
 | k+1=>fun x0p x0l x0c x3 x4p x4l x4c x5 w=>ifB (decide ((x5:Int) < x3)) (zbf w fun w1=>semK PP (Instr.indexAt 49 (.slice x0p x0l x0c) (i6 x5)) w1 fun v1 w2=>asA v1 fun ad1=>gL w1 (Addr.add ad1 3) fun l1p l1l l1c=>semK PP (Instr.indexAt 49 (.slice x0p x0l x0c) (i6 x5)) w1 fun v3 w3=>asA v3 fun ad2=>gL w1 (Addr.add ad2 3) fun l2p l2l l2c=>zaf w1 (.cells #[(.int .u8 (IntKind.wrap .u8 (Int.fdiv (l1l:Nat) (2 ^ (min (8:Int).toNat 64))))),(.int .u8 (IntKind.wrap .u8 (l2l:Nat)))] 5) fun w4=>semK PP (Builtin.append_ #[22,22] 22 #[(.slice x4p x4l x4c),(.slice (some ⟨w1.heap.size,0,none⟩) 2 2)]) w4 fun v5 w5=>asL v5 fun l3p l3l l3c=>L17_1 R k x0p x0l x0c x3 l3p l3l l3c (IntKind.wrap .i64 (x5+1)) w5) (J17_0 R x0p x0l x0c x3 x4p x4l x4c w)
def F17 (a0p:OA) (a0l:Nat) (a0c:Nat) (w:World) (R:KV):Prop :=
 zaf w (.cells #[(.int .u8 239),(.int .u8 0),(.int .u8 1),(.int .u8 1),(.int .u8 (IntKind.wrap .u8 (Int.fdiv (IntKind.wrap .i64 (4 * (a0l:Nat))) (2 ^ (min (8:Int).toNat 64))))),(.int .u8 (IntKind.wrap .u8 (IntKind.wrap .i64 (4 * (a0l:Nat))))),(.int .u8 2),(.int .u8 (IntKind.wrap .u8 (Int.fdiv (a0l:Nat) (2 ^ (min (8:Int).toNat 64))))),(.int .u8 (IntKind.wrap .u8 (a0l:Nat)))] 5) fun w1=>∃ m,L17_1 R m a0p a0l a0c (a0l:Nat) (some ⟨w.heap.size,0,none⟩) 9 9 0 w1
def A17 (R:KV):Ann:=(sN (sN (sN (.join (fun e ds w=>nilD ds (asL (e 0) fun x0p x0l x0c=>aI e 3 fun x3=>asL (e 4) fun x4p x4l x4c=>J17_0 R x0p x0l x0c x3 x4p x4l x4c w)) (sN (.block (.loop (fun m e ds w=>nilD ds (asL (e 0) fun x0p x0l x0c=>aI e 3 fun x3=>asL (e 4) fun x4p x4l x4c=>aI e 5 fun x5=>L17_1 R m x0p x0l x0c x3 x4p x4l x4c x5 w)) (fun kL17_1=>(sN (.seq (.block (.draw [0,1,2,3,4,5,6,7,8,9,10,11,12,13,14,15,16,17,18])) .no)))))) (sN (.join (fun e ds w=>nilD ds (asL (e 0) fun x0p x0l x0c=>aI e 3 fun x3=>asL (e 4) fun x4p x4l x4c=>J17_2 R x0p x0l x0c x3 x4p x4l x4c w)) (sN (.block (.loop (fun m e ds w=>nilD ds (asL (e 0) fun x0p x0l x0c=>aI e 3 fun x3=>asL (e 4) fun x4p x4l x4c=>aI e 6 fun x6=>L17_3 R m x0p x0l x0c x3 x4p x4l x4c x6 w)) (fun kL17_3=>(sN (.seq (.block (.draw [0,1,2,3,4,5,6,7,8,9,10,11,12,13,14,15,16,17,18,19,20,21,22,23,24,25,26,27,28,29,30,31,32])) .no)))))) (.seq (sN (.block (.loop (fun m e ds w=>nilD ds (asL (e 0) fun x0p x0l x0c=>aI e 3 fun x3=>asL (e 4) fun x4p x4l x4c=>aI e 7 fun x7=>L17_4 R m x0p x0l x0c x3 x4p x4l x4c x7 w)) (fun kL17_4=>.no)))) .no)))))))
theorem sides17 (R:KV):zak PP Tryz.f17 (A17 R) R:=by
 exact (zt (zt (zt (ai (zsi fun e w h=>eL h fun z0 h=>eI h fun z3 h=>eL h fun z4 h=>by rw [← zag (aC z0 (aC z3 (aC z4 aN)))];exact zq h) (ai (zt (ai (zsi fun e w h=>eL h fun z0 h=>eI h fun z3 h=>eL h fun z4 h=>eI h fun z5 h=>h) (ai (fun kL17_1=>zsi fun e w h=>eL h fun z0 h=>eI h fun z3 h=>eL h fun z4 h=>eI h fun z5 h=>by rw [← zag (aC z0 (aC z3 (aC z4 (aC z5 aN))))];exact zq h) (fun kL17_1=>(zt (ai trivial trivial)))))) (zt (ai (zsi fun e w h=>eL h fun z0 h=>eI h fun z3 h=>eL h fun z4 h=>by rw [← zag (aC z0 (aC z3 (aC z4 aN)))];exact zq h) (ai (zt (ai (zsi fun e w h=>eL h fun z0 h=>eI h fun z3 h=>eL h fun z4 h=>eI h fun z6 h=>h) (ai (fun kL17_3=>zsi fun e w h=>eL h fun z0 h=>eI h fun z3 h=>eL h fun z4 h=>eI h fun z6 h=>by rw [← zag (aC z0 (aC z3 (aC z4 (aC z6 aN))))];exact zq h) (fun kL17_3=>(zt (ai trivial trivial)))))) (ai (zt (ai (zsi fun e w h=>eL h fun z0 h=>eI h fun z3 h=>eL h fun z4 h=>eI h fun z7 h=>h) (ai (fun kL17_4=>zsi fun e w h=>eL h fun z0 h=>eI h fun z3 h=>eL h fun z4 h=>eI h fun z7 h=>by rw [← zag (aC z0 (aC z3 (aC z4 (aC z7 aN))))];exact zq h) (fun kL17_4=>trivial)))) trivial)))))))))
theorem call17 (a0p:OA) (a0l:Nat) (a0c:Nat) (w:World) (R:KV) (h:F17 a0p a0l a0c w R):zaj PP 17 #[(.slice a0p a0l a0c)] w R :=
 zah (an:=A17 R) Tryz.func17 rfl (sides17 R) (Eq.mp (by kernel_rfl) h)

def F18 (a0:Int) (a1:Int) (w:World) (R:KV):Prop :=
 ifB (decide ((a0:Int) > (IntKind.wrap .u64 (18446744073709551615 - a1)))) (R (u6 18446744073709551615) w) (R (u6 (IntKind.wrap .u64 (a0+a1))) w)
def A18 (R:KV):Ann:=.no
theorem sides18 (R:KV):zak PP Tryz.f18 (A18 R) R:=by
 trivial
theorem call18 (a0:Int) (a1:Int) (w:World) (R:KV) (h:F18 a0 a1 w R):zaj PP 18 #[(u6 a0),(u6 a1)] w R :=
 zah (an:=A18 R) Tryz.func18 rfl (sides18 R) (Eq.mp (by kernel_rfl) h)
def L52_0 (R:KV):Nat→OA→Nat→Nat→Int→Int→World→Prop
 | 0=>fun _ _ _ _ _ _=>False
 | k+1=>fun x0p x0l x0c x3 x4 w=>ifB (decide ((x4:Int) < (x0l:Nat))) (semK PP (Instr.indexAt 29 (.slice x0p x0l x0c) (i6 x4)) w fun v1 w1=>asA v1 fun ad1=>gI .i64 w1 ad1 fun n1=>L52_0 R k x0p x0l x0c (IntKind.wrap .i64 (x3+n1)) (IntKind.wrap .i64 (x4+1)) w1) (R (i6 x3) w)
def J64_3 (R:KV) (C_L64_2:Addr→Int→Int→World→Prop) (x1:Addr) (x57:Int) (x58:Int) (w:World):Prop :=
 C_L64_2 x1 x57 (IntKind.wrap .i64 (x58+1)) w
def L64_4 (R:KV) (C_L64_2:Addr→Int→Int→World→Prop):Nat→Addr→Int→Addr→Int→Int→Int→Value→Value→Int→Value→Value→Int→Value→Value→Int→World→Prop
 | 0=>fun _ _ _ _ _ _ _ _ _ _ _ _ _ _ _ _=>False
 | k+1=>fun x1 x5 x6 x57 x58 x66_0 x66_1 x66_2 x66_3 x66_4 x66_5 x66_6 x66_7 x66_8 x67 w=>ifB (decide ((x67:Int) < 3)) (semK PP (Instr.index 184 (.agg #[(i6 x66_0),x66_1,x66_2,(i6 x66_3),x66_4,x66_5,(i6 x66_6),x66_7,x66_8]) (i6 x67)) w fun v1 w1=>asG v1 fun q10=>hI .i64 q10 fun n1 q11=>asHd q11 fun q1_1x q12=>asHd q12 fun q1_2x q13=>zav q13 (zaf w1 (.cells #[(i6 0),.nilFunc,.nilFunc] 183) fun w2=>sU 183 ⟨w1.heap.size,0,none⟩ (.agg #[(i6 n1),q1_1x,q1_2x]) w2 fun w3=>zbf w3 fun w4=>ldK PP w4 ⟨w1.heap.size,1,none⟩ fun v2=>ldK PP w4 ⟨w1.heap.size,2,none⟩ fun v3=>zau PP v3 #[(.pointer (some x6))] w4 fun v4 w5=>asP v4 fun p1=>(ldK PP w5 ⟨w1.heap.size,1,none⟩ fun v5=>(v5:Value)=v2)∧(optP p1 fun ad1=>gI .i64 w5 ad1 fun n2=>zau PP v2 #[(.bool ((x5:Int) == 0)),(i6 n2)] w5 fun v7 w6=>asB v7 fun b1=>ifB (!b1) (R (i6 59) w6) (L64_4 R C_L64_2 k x1 x5 x6 x57 x58 x66_0 x66_1 x66_2 x66_3 x66_4 x66_5 x66_6 x66_7 x66_8 (IntKind.wrap .i64 (x67+1)) w6)))) (J64_3 R C_L64_2 x1 x57 x58 w)
def L64_2 (R:KV):Nat→Addr→Int→Int→World→Prop
 | 0=>fun _ _ _ _=>False
 | k+1=>fun x1 x57 x58 w=>ifB (decide ((x58:Int) < x57)) (gL w x1 fun l1p l1l l1c=>semK PP (Instr.indexAt 24 (.slice l1p l1l l1c) (i6 x58)) w fun v2 w1=>asA v2 fun ad1=>ma7 w1 ad1 fun n1 n2 n3=>zaf w1 (.cells #[(i6 0),(i6 0),(i6 0)] 52) fun w2=>sU 52 ⟨w1.heap.size,0,none⟩ (.agg #[(i6 n1),(i6 n2),(i6 n3)]) w2 fun w3=>CV 84 #[] w3 fun v6 w4=>asG v6 fun q10=>hI .i64 q10 fun n4 q11=>asHd q11 fun q1_1x q12=>asHd q12 fun q1_2x q13=>hI .i64 q13 fun n5 q14=>asHd q14 fun q1_4x q15=>asHd q15 fun q1_5x q16=>hI .i64 q16 fun n6 q17=>asHd q17 fun q1_7x q18=>asHd q18 fun q1_8x q19=>zav q19 (∃ m,L64_4 R (L64_2 R k) m x1 x58 ⟨w1.heap.size,0,none⟩ x57 x58 n4 q1_1x q1_2x n5 q1_4x q1_5x n6 q1_7x q1_8x 0 w4)) (R (i6 0) w)
def J64_0 (R:KV) (x1:Addr) (w:World):Prop :=
 gL w (Addr.add x1 1) fun l1p l1l l1c=>CV 93 #[(.slice l1p l1l l1c),(i6 65535)] w fun v2 w1=>asI .i64 v2 fun n1=>ifB ((n1:Int) != 0) (R (i6 n1) w1) (gL w1 (Addr.add x1 2) fun l2p l2l l2c=>ifB (decide (((l2l:Nat):Int) > 256)) (R (i6 57) w1) (gL w1 (Addr.add x1 2) fun l3p l3l l3c=>CV 93 #[(.slice l3p l3l l3c),(i6 4294967295)] w1 fun v5 w2=>asI .i64 v5 fun n2=>ifB ((n2:Int) != 0) (R (i6 n2) w2) (gI .i64 w2 (Addr.add x1 4) fun n3=>ifB (decide ((n3:Int) > 65535)) (R (i6 2) w2) (gI .i64 w2 (Addr.add x1 4) fun n4=>gL w2 (Addr.add x1 3) fun l4p l4l l4c=>ifB (decide ((n4:Int) < (l4l:Nat))) (R (i6 1) w2) (gL w2 x1 fun l5p l5l l5c=>∃ m,L64_2 R m x1 (l5l:Nat) 0 w2)))))
def J64_1 (R:KV) (x1:Addr) (x9:Bool) (w:World):Prop :=
 ifB x9 (R (i6 55) w) (ma43 w x1 fun l1p l1l l1c l2p l2l l2c=>ifB (((l1l:Nat):Int) != (l2l:Nat)) (R (i6 54) w) (J64_0 R x1 w))
def F64 (a0_0p:OA) (a0_0l:Nat) (a0_0c:Nat) (a0_1p:OA) (a0_1l:Nat) (a0_1c:Nat) (a0_2p:OA) (a0_2l:Nat) (a0_2c:Nat) (a0_3p:OA) (a0_3l:Nat) (a0_3c:Nat) (a0_4:Int) (w:World) (R:KV):Prop :=
 zaf w (.cells #[(.slice a0_0p a0_0l a0_0c),(.slice a0_1p a0_1l a0_1c),(.slice a0_2p a0_2l a0_2c),(.slice a0_3p a0_3l a0_3c),(i6 a0_4)] 27) fun w1=>gL w1 ⟨w.heap.size,1,none⟩ fun l1p l1l l1c=>ifB (((l1l:Nat):Int) == 0) (J64_1 R ⟨w.heap.size,0,none⟩ true w1) (gL w1 ⟨w.heap.size,1,none⟩ fun l2p l2l l2c=>J64_1 R ⟨w.heap.size,0,none⟩ (decide (((l2l:Nat):Int) > 1024)) w1)
def A64 (R:KV):Ann:=(sN (.join (fun e ds w=>nilD ds (asA (e 1) fun x1=>J64_0 R x1 w)) (.block (.join (fun e ds w=>nilD ds (asA (e 1) fun x1=>asB (e 9) fun x9=>J64_1 R x1 x9 w)) .no .no)) (sN (sN (sN (sN (.seq (sN (.block (.loop (fun m e ds w=>nilD ds (asA (e 1) fun x1=>aI e 57 fun x57=>aI e 58 fun x58=>L64_2 R m x1 x57 x58 w)) (fun kL64_2=>(sN (sN (.join (fun e ds w=>nilD ds (asA (e 1) fun x1=>aI e 57 fun x57=>aI e 58 fun x58=>J64_3 R (L64_2 R kL64_2) x1 x57 x58 w)) (.block (sN (sN (sN (.block (.loop (fun m e ds w=>nilD ds (asA (e 1) fun x1=>aI e 5 fun x5=>asA (e 6) fun x6=>aI e 57 fun x57=>aI e 58 fun x58=>asG (e 66) fun x66s0=>hI .i64 x66s0 fun x66_0 x66s1=>asHd x66s1 fun x66_1v x66s2=>asAny x66_1v fun x66_1=>asHd x66s2 fun x66_2v x66s3=>asAny x66_2v fun x66_2=>hI .i64 x66s3 fun x66_3 x66s4=>asHd x66s4 fun x66_4v x66s5=>asAny x66_4v fun x66_4=>asHd x66s5 fun x66_5v x66s6=>asAny x66_5v fun x66_5=>hI .i64 x66s6 fun x66_6 x66s7=>asHd x66s7 fun x66_7v x66s8=>asAny x66_7v fun x66_7=>asHd x66s8 fun x66_8v x66s9=>asAny x66_8v fun x66_8=>zav x66s9 (aI e 67 fun x67=>L64_4 R (L64_2 R kL64_2) m x1 x5 x6 x57 x58 x66_0 x66_1 x66_2 x66_3 x66_4 x66_5 x66_6 x66_7 x66_8 x67 w))) (fun kL64_4=>(sN (sN (.seq (.block (sN (.seq (.draw [0,1,2,3,4,5,6,7,8,9,10]) .no))) .no)))))))))) .no))))))) .no)))))))
theorem sides64 (R:KV):zak PP Tryz.f64 (A64 R) R:=by
 exact (zt (ai (zsi fun e w h=>eA h fun z1 h=>by rw [← zag (aC z1 aN)];exact zq h) (ai (ai (zsi fun e w h=>eA h fun z1 h=>eB h fun z9 h=>by rw [← zag (aC z1 (aC z9 aN))];exact zq h) (ai trivial trivial)) (zt (zt (zt (zt (ai (zt (ai (zsi fun e w h=>eA h fun z1 h=>eI h fun z57 h=>eI h fun z58 h=>h) (ai (fun kL64_2=>zsi fun e w h=>eA h fun z1 h=>eI h fun z57 h=>eI h fun z58 h=>by rw [← zag (aC z1 (aC z57 (aC z58 aN)))];exact zq h) (fun kL64_2=>(zt (zt (ai (zsi fun e w h=>eA h fun z1 h=>eI h fun z57 h=>eI h fun z58 h=>by rw [← zag (aC z1 (aC z57 (aC z58 aN)))];exact zq h) (ai (zt (zt (zt (ai (by intro e ds w h;replace h:=zad h;obtain ⟨rfl,h⟩:=h;obtain ⟨_,z1,h⟩:=zac h;obtain ⟨_,z5,h⟩:=zaa h;obtain ⟨_,z6,h⟩:=zac h;obtain ⟨_,z57,h⟩:=zaa h;obtain ⟨_,z58,h⟩:=zaa h;obtain ⟨_,z66,h⟩:=asG_elim h;obtain ⟨x66_0u,x66l0,z66_0q,h⟩:=zal h;obtain ⟨_,z66_0,h⟩:=zaa h;obtain ⟨x66_1u,x66l1,z66_1q,h⟩:=zal h;obtain ⟨_,z66_1,h⟩:=zax h;obtain ⟨x66_2u,x66l2,z66_2q,h⟩:=zal h;obtain ⟨_,z66_2,h⟩:=zax h;obtain ⟨x66_3u,x66l3,z66_3q,h⟩:=zal h;obtain ⟨_,z66_3,h⟩:=zaa h;obtain ⟨x66_4u,x66l4,z66_4q,h⟩:=zal h;obtain ⟨_,z66_4,h⟩:=zax h;obtain ⟨x66_5u,x66l5,z66_5q,h⟩:=zal h;obtain ⟨_,z66_5,h⟩:=zax h;obtain ⟨x66_6u,x66l6,z66_6q,h⟩:=zal h;obtain ⟨_,z66_6,h⟩:=zaa h;obtain ⟨x66_7u,x66l7,z66_7q,h⟩:=zal h;obtain ⟨_,z66_7,h⟩:=zax h;obtain ⟨x66_8u,x66l8,z66_8q,h⟩:=zal h;obtain ⟨_,z66_8,h⟩:=zax h;have z66_e:=zcz h;replace h:=z66_e.2;rw [z66_0q,z66_1q,z66_2q,z66_3q,z66_4q,z66_5q,z66_6q,z66_7q,z66_8q,z66_e.1,z66_0,z66_1,z66_2,z66_3,z66_4,z66_5,z66_6,z66_7,z66_8] at z66;obtain ⟨_,z67,h⟩:=zaa h;exact h) (ai (by intro kL64_4 e ds w h;replace h:=zad h;obtain ⟨rfl,h⟩:=h;obtain ⟨_,z1,h⟩:=zac h;obtain ⟨_,z5,h⟩:=zaa h;obtain ⟨_,z6,h⟩:=zac h;obtain ⟨_,z57,h⟩:=zaa h;obtain ⟨_,z58,h⟩:=zaa h;obtain ⟨_,z66,h⟩:=asG_elim h;obtain ⟨x66_0u,x66l0,z66_0q,h⟩:=zal h;obtain ⟨_,z66_0,h⟩:=zaa h;obtain ⟨x66_1u,x66l1,z66_1q,h⟩:=zal h;obtain ⟨_,z66_1,h⟩:=zax h;obtain ⟨x66_2u,x66l2,z66_2q,h⟩:=zal h;obtain ⟨_,z66_2,h⟩:=zax h;obtain ⟨x66_3u,x66l3,z66_3q,h⟩:=zal h;obtain ⟨_,z66_3,h⟩:=zaa h;obtain ⟨x66_4u,x66l4,z66_4q,h⟩:=zal h;obtain ⟨_,z66_4,h⟩:=zax h;obtain ⟨x66_5u,x66l5,z66_5q,h⟩:=zal h;obtain ⟨_,z66_5,h⟩:=zax h;obtain ⟨x66_6u,x66l6,z66_6q,h⟩:=zal h;obtain ⟨_,z66_6,h⟩:=zaa h;obtain ⟨x66_7u,x66l7,z66_7q,h⟩:=zal h;obtain ⟨_,z66_7,h⟩:=zax h;obtain ⟨x66_8u,x66l8,z66_8q,h⟩:=zal h;obtain ⟨_,z66_8,h⟩:=zax h;have z66_e:=zcz h;replace h:=z66_e.2;rw [z66_0q,z66_1q,z66_2q,z66_3q,z66_4q,z66_5q,z66_6q,z66_7q,z66_8q,z66_e.1,z66_0,z66_1,z66_2,z66_3,z66_4,z66_5,z66_6,z66_7,z66_8] at z66;obtain ⟨_,z67,h⟩:=zaa h;rw [← zag (aC z1 (aC z5 (aC z6 (aC z57 (aC z58 (aC z66 (aC z67 aN)))))))];exact Eq.mp (by kernel_rfl) h) (fun kL64_4=>(zt (zt (ai (zt (ai trivial trivial)) trivial))))))))) trivial)))))))) trivial))))))))
theorem call64 (a0_0p:OA) (a0_0l:Nat) (a0_0c:Nat) (a0_1p:OA) (a0_1l:Nat) (a0_1c:Nat) (a0_2p:OA) (a0_2l:Nat) (a0_2c:Nat) (a0_3p:OA) (a0_3l:Nat) (a0_3c:Nat) (a0_4:Int) (w:World) (R:KV) (h:F64 a0_0p a0_0l a0_0c a0_1p a0_1l a0_1c a0_2p a0_2l a0_2c a0_3p a0_3l a0_3c a0_4 w R):zaj PP 64 #[(.agg #[(.slice a0_0p a0_0l a0_0c),(.slice a0_1p a0_1l a0_1c),(.slice a0_2p a0_2l a0_2c),(.slice a0_3p a0_3l a0_3c),(i6 a0_4)])] w R :=
 zah (an:=A64 R) Tryz.func64 rfl (sides64 R) (Eq.mp (by kernel_rfl) h)

def J65_2 (R:KV) (C_L65_1:OA→Int→OA→Nat→Nat→OA→Nat→Nat→Bool→OA→Nat→Nat→Int→Int→World→Prop) (x0:OA) (x1:Int) (x6p:OA) (x6l:Nat) (x6c:Nat) (x10p:OA) (x10l:Nat) (x10c:Nat) (x11:Bool) (x39p:OA) (x39l:Nat) (x39c:Nat) (x40:Int) (x41:Int) (w:World):Prop :=
 C_L65_1 x0 x1 x6p x6l x6c x10p x10l x10c x11 x39p x39l x39c x40 (IntKind.wrap .i64 (x41+1)) w
def J65_0 (R:KV) (x0:OA) (x1:Int) (x6p:OA) (x6l:Nat) (x6c:Nat) (x11:Bool) (w:World):Prop :=
 optP x0 fun ad1=>gL w ad1 fun l1p l1l l1c=>CV 97 #[(.slice l1p l1l l1c),(i6 x1),(.slice x6p x6l x6c)] w fun v2 w1=>dT23 v2 fun l2p l2l l2c n1 n2=>optP x0 fun ad2=>gL w1 ad2 fun l3p l3l l3c=>semK PP (Instr.indexAt 24 (.slice l3p l3l l3c) (i6 x1)) w1 fun v4 w2=>asA v4 fun ad3=>ma7 w2 ad3 fun n3 n4 n5=>zaf w2 (.cells #[(i6 0),(i6 0),(i6 0)] 52) fun w3=>sU 52 ⟨w2.heap.size,0,none⟩ (.agg #[(i6 n3),(i6 n4),(i6 n5)]) w3 fun w4=>ifB ((n1:Int) != 0) (R (.tuple #[(i6 n1),(i6 n2)]) w4) (zbf w4 fun w5=>gI .i64 w5 ⟨w2.heap.size,2,none⟩ fun n6=>CV 98 #[(.slice l2p l2l l2c)] w5 fun v9 w6=>asI .i64 v9 fun n7=>(gI .i64 w6 ⟨w2.heap.size,2,none⟩ fun n8=>((i6 n8):Value)=(i6 n6))∧(ifB ((n7:Int) != n6) (R (.tuple #[(i6 75),(i6 0)]) w6) (gI .i64 w6 ⟨w2.heap.size,1,none⟩ fun n9=>ifB ((n9:Int) != 128) (ifB (!x11) (R (.tuple #[(i6 86),(i6 0)]) w6) (R (.tuple #[(i6 0),(i6 0)]) w6)) (R (.tuple #[(i6 0),(i6 0)]) w6))))
def L65_1 (R:KV):Nat→OA→Int→OA→Nat→Nat→OA→Nat→Nat→Bool→OA→Nat→Nat→Int→Int→World→Prop
 | 0=>fun _ _ _ _ _ _ _ _ _ _ _ _ _ _ _=>False
 | k+1=>fun x0 x1 x6p x6l x6c x10p x10l x10c x11 x39p x39l x39c x40 x41 w=>ifB (decide ((x41:Int) < x40)) (semK PP (Instr.indexAt 148 (.slice x39p x39l x39c) (i6 x41)) w fun v1 w1=>asA v1 fun ad1=>ma12 w1 ad1 fun n1 n2 l1p l1l l1c n3=>zaf w1 (.cells #[(i6 0),(i6 0),(.slice none 0 0),(i6 0)] 70) fun w2=>sU 70 ⟨w1.heap.size,0,none⟩ (.agg #[(i6 n1),(i6 n2),(.slice l1p l1l l1c),(i6 n3)]) w2 fun w3=>mb13 w3 w1.heap.size fun n4 n5 l2p l2l l2c n6=>CV 96 #[(.pointer x0),(i6 x1),(.agg #[(i6 n4),(i6 n5),(.slice l2p l2l l2c),(i6 n6)]),(.slice x10p x10l x10c)] w3 fun v10 w4=>asI .i64 v10 fun n7=>ifB ((n7:Int) != 0) (zbf w4 fun w5=>gI .i64 w5 ⟨w1.heap.size,0,none⟩ fun n8=>R (.tuple #[(i6 n7),(i6 n8)]) w5) (mb13 w4 w1.heap.size fun n9 n10 l3p l3l l3c n11=>CV 37 #[(.agg #[(i6 n9),(i6 n10),(.slice l3p l3l l3c),(i6 n11)])] w4 fun v16 w6=>dT9 v16 fun n12 b1=>gI .i64 w6 ⟨w1.heap.size,1,none⟩ fun n13=>ifB ((n13:Int) == 228) (J65_2 R (L65_1 R k) x0 x1 x6p x6l x6c x10p x10l x10c true x39p x39l x39c x40 x41 w6) (gI .i64 w6 ⟨w1.heap.size,1,none⟩ fun n14=>ifB ((n14:Int) == 229) (optP x0 fun ad2=>gL w6 ad2 fun l4p l4l l4c=>semK PP (Instr.indexAt 24 (.slice l4p l4l l4c) (i6 n12)) w6 fun v20 w7=>asA v20 fun ad3=>gI .i64 w7 (Addr.add ad3 1) fun n15=>ifB ((n15:Int) != 128) (J65_2 R (L65_1 R k) x0 x1 x6p x6l x6c x10p x10l x10c true x39p x39l x39c x40 x41 w7) (J65_2 R (L65_1 R k) x0 x1 x6p x6l x6c x10p x10l x10c x11 x39p x39l x39c x40 x41 w7)) (J65_2 R (L65_1 R k) x0 x1 x6p x6l x6c x10p x10l x10c x11 x39p x39l x39c x40 x41 w6)))) (J65_0 R x0 x1 x6p x6l x6c x11 w)
def F65 (a0:OA) (a1:Int) (w:World) (R:KV):Prop :=
 optP a0 fun ad1=>gL w (Addr.add ad1 1) fun l1p l1l l1c=>semK PP (Instr.indexAt 25 (.slice l1p l1l l1c) (i6 a1)) w fun v2 w1=>asA v2 fun ad2=>gL w1 ad2 fun l2p l2l l2c=>CV 94 #[(.slice l2p l2l l2c)] w1 fun v4 w2=>dT23 v4 fun l3p l3l l3c n1 n2=>ifB ((n1:Int) != 0) (R (.tuple #[(i6 n1),(i6 n2)]) w2) (CV 95 #[(.slice l2p l2l l2c)] w2 fun v5 w3=>asL v5 fun l4p l4l l4c=>∃ m,L65_1 R m a0 a1 l2p l2l l2c l4p l4l l4c false l3p l3l l3c (l3l:Nat) 0 w3)
def A65 (R:KV):Ann:=(sN (sN (sN (sN (sN (sN (.join (fun e ds w=>nilD ds (asP (e 0) fun x0=>aI e 1 fun x1=>asL (e 6) fun x6p x6l x6c=>asB (e 11) fun x11=>J65_0 R x0 x1 x6p x6l x6c x11 w)) (sN (.block (.loop (fun m e ds w=>nilD ds (asP (e 0) fun x0=>aI e 1 fun x1=>asL (e 6) fun x6p x6l x6c=>asL (e 10) fun x10p x10l x10c=>asB (e 11) fun x11=>asL (e 39) fun x39p x39l x39c=>aI e 40 fun x40=>aI e 41 fun x41=>L65_1 R m x0 x1 x6p x6l x6c x10p x10l x10c x11 x39p x39l x39c x40 x41 w)) (fun kL65_1=>(sN (sN (.join (fun e ds w=>nilD ds (asP (e 0) fun x0=>aI e 1 fun x1=>asL (e 6) fun x6p x6l x6c=>asL (e 10) fun x10p x10l x10c=>asB (e 11) fun x11=>asL (e 39) fun x39p x39l x39c=>aI e 40 fun x40=>aI e 41 fun x41=>J65_2 R (L65_1 R kL65_1) x0 x1 x6p x6l x6c x10p x10l x10c x11 x39p x39l x39c x40 x41 w)) (.block (sN (.seq (sN (sN (.cond (.seq (.draw [0,1,2,3,4]) .no) .no))) .no))) .no))))))) (sN (.seq (sN (.block (sN (.cond .no (.seq (.draw [0,2,3,1,4,5]) .no))))) .no)))))))))
theorem sides65 (R:KV):zak PP Tryz.f65 (A65 R) R:=by
 exact (zt (zt (zt (zt (zt (zt (ai (zsi fun e w h=>eP h fun z0 h=>eI h fun z1 h=>eL h fun z6 h=>eB h fun z11 h=>by rw [← zag (aC z0 (aC z1 (aC z6 (aC z11 aN))))];exact zq h) (ai (zt (ai (zsi fun e w h=>eP h fun z0 h=>eI h fun z1 h=>eL h fun z6 h=>eL h fun z10 h=>eB h fun z11 h=>eL h fun z39 h=>eI h fun z40 h=>eI h fun z41 h=>h) (ai (fun kL65_1=>zsi fun e w h=>eP h fun z0 h=>eI h fun z1 h=>eL h fun z6 h=>eL h fun z10 h=>eB h fun z11 h=>eL h fun z39 h=>eI h fun z40 h=>eI h fun z41 h=>by rw [← zag (aC z0 (aC z1 (aC z6 (aC z10 (aC z11 (aC z39 (aC z40 (aC z41 aN))))))))];exact zq h) (fun kL65_1=>(zt (zt (ai (zsi fun e w h=>eP h fun z0 h=>eI h fun z1 h=>eL h fun z6 h=>eL h fun z10 h=>eB h fun z11 h=>eL h fun z39 h=>eI h fun z40 h=>eI h fun z41 h=>by rw [← zag (aC z0 (aC z1 (aC z6 (aC z10 (aC z11 (aC z39 (aC z40 (aC z41 aN))))))))];exact zq h) (ai (zt (ai (zt (zt (ai (ai trivial trivial) trivial))) trivial)) trivial)))))))) (zt (ai (zt (zt (zt (ai trivial trivial)))) trivial))))))))))
theorem call65 (a0:OA) (a1:Int) (w:World) (R:KV) (h:F65 a0 a1 w R):zaj PP 65 #[(.pointer a0),(i6 a1)] w R :=
 zah (an:=A65 R) Tryz.func65 rfl (sides65 R) (Eq.mp (by kernel_rfl) h)

def L66_2 (R:KV) (C_L66_1:OA→OA→Nat→Nat→OA→Nat→Nat→World→Prop):Nat→OA→OA→Nat→Nat→OA→Nat→Nat→Int→OA→Nat→Nat→Int→Int→World→Prop
 | 0=>fun _ _ _ _ _ _ _ _ _ _ _ _ _ _=>False
 | k+1=>fun x0 x4p x4l x4c x5p x5l x5c x6 x41p x41l x41c x42 x43 w=>ifB (decide ((x43:Int) < x42)) (semK PP (Instr.indexAt 29 (.slice x41p x41l x41c) (i6 x43)) w fun v1 w1=>asA v1 fun ad1=>gI .i64 w1 ad1 fun n1=>semK PP (Instr.indexAt 47 (.slice x4p x4l x4c) (i6 n1)) w1 fun v3 w2=>asA v3 fun ad2=>gB w2 ad2 fun b1=>ifB (!b1) (semK PP (Instr.indexAt 47 (.slice x4p x4l x4c) (i6 n1)) w2 fun v5 w3=>asA v5 fun ad3=>sU 4 ad3 (.bool true) w3 fun w4=>zaf w4 (.cells #[(i6 x6),(i6 n1)] 3) fun w5=>semK PP (Builtin.append_ #[29,29] 29 #[(.slice x5p x5l x5c),(.slice (some ⟨w4.heap.size,0,none⟩) 2 2)]) w5 fun v6 w6=>asL v6 fun l1p l1l l1c=>C_L66_1 x0 x4p x4l x4c l1p l1l l1c w6) (L66_2 R C_L66_1 k x0 x4p x4l x4c x5p x5l x5c x6 x41p x41l x41c x42 (IntKind.wrap .i64 (x43+1)) w2)) (C_L66_1 x0 x4p x4l x4c x5p x5l x5c w)
def L66_3 (R:KV):Nat→OA→Nat→Nat→Int→Int→World→Prop
 | 0=>fun _ _ _ _ _ _=>False
 | k+1=>fun x61p x61l x61c x62 x63 w=>ifB (decide ((x63:Int) < x62)) (semK PP (Instr.indexAt 47 (.slice x61p x61l x61c) (i6 x63)) w fun v1 w1=>asA v1 fun ad1=>gB w1 ad1 fun b1=>ifB (!b1) (R (.tuple #[(i6 x63),(.bool true)]) w1) (L66_3 R k x61p x61l x61c x62 (IntKind.wrap .i64 (x63+1)) w1)) (R (.tuple #[(i6 0),(.bool false)]) w)
def J66_0 (R:KV) (x4p:OA) (x4l:Nat) (x4c:Nat) (w:World):Prop :=
 ∃ m,L66_3 R m x4p x4l x4c (x4l:Nat) 0 w
def L66_1 (R:KV):Nat→OA→OA→Nat→Nat→OA→Nat→Nat→World→Prop
 | 0=>fun _ _ _ _ _ _ _ _=>False
 | k+1=>fun x0 x4p x4l x4c x5p x5l x5c w=>ifB (decide (((x5l:Nat):Int) > 0)) (semK PP (Instr.indexAt 29 (.slice x5p x5l x5c) (i6 (IntKind.wrap .i64 ((x5l:Nat) - 1)))) w fun v1 w1=>asA v1 fun ad1=>gI .i64 w1 ad1 fun n1=>semK PP (Instr.sliceAt 29 (.slice x5p x5l x5c) none (some (i6 (IntKind.wrap .i64 ((x5l:Nat) - 1)))) none) w1 fun v3 w2=>asL v3 fun l1p l1l l1c=>optP x0 fun ad2=>gL w2 (Addr.add ad2 8) fun l2p l2l l2c=>semK PP (Instr.indexAt 141 (.slice l2p l2l l2c) (i6 n1)) w2 fun v5 w3=>asA v5 fun ad3=>gL w3 ad3 fun l3p l3l l3c=>∃ m,L66_2 R (L66_1 R k) m x0 x4p x4l x4c l1p l1l l1c n1 l3p l3l l3c (l3l:Nat) 0 w3) (J66_0 R x4p x4l x4c w)
def F66 (a0:OA) (w:World) (R:KV):Prop :=
 optP a0 fun ad1=>gL w (Addr.add ad1 1) fun l1p l1l l1c=>semK PP (Instr.makeSlice 47 (i6 (l1l:Nat)) (i6 (l1l:Nat))) w fun v2 w1=>asL v2 fun l2p l2l l2c=>semK PP (Instr.indexAt 47 (.slice l2p l2l l2c) (i6 0)) w1 fun v3 w2=>asA v3 fun ad2=>sU 4 ad2 (.bool true) w2 fun w3=>zaf w3 (.cells #[(i6 0)] 3) fun w4=>∃ m,L66_1 R m a0 l2p l2l l2c (some ⟨w3.heap.size,0,none⟩) 1 1 w4
def A66 (R:KV):Ann:=(sN (.block (sN (sN (sN (sN (.join (fun e ds w=>nilD ds (asL (e 4) fun x4p x4l x4c=>J66_0 R x4p x4l x4c w)) (.block (.loop (fun m e ds w=>nilD ds (asP (e 0) fun x0=>asL (e 4) fun x4p x4l x4c=>asL (e 5) fun x5p x5l x5c=>L66_1 R m x0 x4p x4l x4c x5p x5l x5c w)) (fun kL66_1=>(sN (.block (sN (sN (sN (.block (.loop (fun m e ds w=>nilD ds (asP (e 0) fun x0=>asL (e 4) fun x4p x4l x4c=>asL (e 5) fun x5p x5l x5c=>aI e 6 fun x6=>asL (e 41) fun x41p x41l x41c=>aI e 42 fun x42=>aI e 43 fun x43=>L66_2 R (L66_1 R kL66_1) m x0 x4p x4l x4c x5p x5l x5c x6 x41p x41l x41c x42 x43 w)) (fun kL66_2=>.no))))))))))) (.seq (sN (.block (.loop (fun m e ds w=>nilD ds (asL (e 61) fun x61p x61l x61c=>aI e 62 fun x62=>aI e 63 fun x63=>L66_3 R m x61p x61l x61c x62 x63 w)) (fun kL66_3=>.no)))) .no))))))))
theorem sides66 (R:KV):zak PP Tryz.f66 (A66 R) R:=by
 exact (zt (zt (zt (zt (zt (ai (zsi fun e w h=>eL h fun z4 h=>by rw [← zag (aC z4 aN)];exact zq h) (ai (ai (zsi fun e w h=>eP h fun z0 h=>eL h fun z4 h=>eL h fun z5 h=>h) (ai (fun kL66_1=>zsi fun e w h=>eP h fun z0 h=>eL h fun z4 h=>eL h fun z5 h=>by rw [← zag (aC z0 (aC z4 (aC z5 aN)))];exact zq h) (fun kL66_1=>(zt (zt (zt (zt (ai (zsi fun e w h=>eP h fun z0 h=>eL h fun z4 h=>eL h fun z5 h=>eI h fun z6 h=>eL h fun z41 h=>eI h fun z42 h=>eI h fun z43 h=>h) (ai (fun kL66_2=>zsi fun e w h=>eP h fun z0 h=>eL h fun z4 h=>eL h fun z5 h=>eI h fun z6 h=>eL h fun z41 h=>eI h fun z42 h=>eI h fun z43 h=>by rw [← zag (aC z0 (aC z4 (aC z5 (aC z6 (aC z41 (aC z42 (aC z43 aN)))))))];exact zq h) (fun kL66_2=>trivial)))))))))) (ai (zt (ai (zsi fun e w h=>eL h fun z61 h=>eI h fun z62 h=>eI h fun z63 h=>h) (ai (fun kL66_3=>zsi fun e w h=>eL h fun z61 h=>eI h fun z62 h=>eI h fun z63 h=>by rw [← zag (aC z61 (aC z62 (aC z63 aN)))];exact zq h) (fun kL66_3=>trivial)))) trivial))))))))
theorem call66 (a0:OA) (w:World) (R:KV) (h:F66 a0 w R):zaj PP 66 #[(.pointer a0)] w R :=
 zah (an:=A66 R) Tryz.func66 rfl (sides66 R) (Eq.mp (by kernel_rfl) h)
end Go.Proofs.YtlfhngoeecjfpaaGreatDoor.W
namespace Go.Proofs.YtlfhngoeecjfpaaGreatDoor.B
open Go Go.RowKit Go.Proofs.YtlfhngoeecjfpaaGreatDoor.Sh Go.Proofs.YtlfhngoeecjfpaaGreatDoor.W
structure Ty where
 inn:Int
 out:Int
 most:Int
deriving DecidableEq
structure Cont where
 types:List Ty
 codes:List (List UInt8)
 subs:List (List UInt8)
 data:List UInt8
 size:Int
deriving DecidableEq
structure Hd where
 p:Option Addr
 n:Nat
 c:Nat
abbrev Hd.v (h:Hd):Value:=.slice h.p h.n h.c
def zat (l:List Ty):List Value:=l.flatMap fun t=>[.int .i64 t.inn,.int .i64 t.out,.int .i64 t.most]
theorem zbw (l:List Ty):(zat l).length=l.length * 3:=by
 induction l with
 | nil=>rfl
 | cons x l ih=>simp only [zat,List.flatMap_cons,List.length_append] at ih ⊢;simp only [List.length_cons,List.length_nil];omega
theorem tyCells_app (l:List Ty) (t:Ty):zat (l++[t])=zat l++[.int .i64 t.inn,.int .i64 t.out,.int .i64 t.most]:=by simp [zat]
theorem tyCells_get {l:List Ty} {k j:Nat} {t:Ty} (h:l[k]? = some t) (hj:j < 3):(zat l)[k * 3+j]? = [Value.int .i64 t.inn,.int .i64 t.out,.int .i64 t.most][j]?:=by
 induction l generalizing k with
 | nil=>simp at h
 | cons y l ih =>
  cases k with
  | zero =>
   simp only [List.getElem?_cons_zero,Option.some.injEq] at h;subst h
   simp only [zat,List.flatMap_cons,Nat.zero_mul,Nat.zero_add]
   rw [List.getElem?_append_left (by simpa using hj)]
  | succ k =>
   simp only [List.getElem?_cons_succ] at h
   rw [← ih h]
   simp only [zat,List.flatMap_cons]
   rw [List.getElem?_append_right (by simp;omega)]
   congr 1;simp;omega
theorem rdTy {P:Program} {w:World} {t e n c:Nat} {p:Option Addr} {k:IntKind} {i:Int} {l:List Ty} {F:Value→World→Prop} (hs:Sees w 3 p n c (zat l)) (ht:P.underlying t=some (.slice e)) (hz:(P.info? e).map (·.size)=some 3) (h0:0≤i) (h1:i < (n:Int))
  (kk:∀ x ad,l[i.toNat]? = some x→w.cell? ad=some (.int .i64 x.inn)→w.cell? (ad.add 1)=some (.int .i64 x.out)→w.cell? (ad.add 2)=some (.int .i64 x.most)→F (.pointer (some ad)) w):semK P (Instr.indexAt t (.slice p n c) (.int k i)) w F:=by
 have hl:=hs.len
 rw [zbw] at hl
 have hi:i.toNat < l.length:=by omega
 have hx:l[i.toNat]? = some l[i.toNat]:=List.getElem?_eq_getElem hi
 refine ixSee hs (by decide) ht hz h0 h1 fun ad had=>?_
 have h:=fun j (hj:j < 3) u hu=>had j u hj (by rw [tyCells_get hx hj];exact hu)
 have h00:=h 0 (by decide) _ rfl
 rw [add_zero] at h00
 exact kk _ ad hx h00 (h 1 (by decide) _ rfl) (h 2 (by decide) _ rfl)
structure ByL (w:World) (h:Hd) (hs:List Hd) (ll:List (List UInt8)):Prop where
 sees:Sees w 1 h.p h.n h.c (hs.map Hd.v)
 len:hs.length=ll.length
 each:∀ (k:Nat) (x:Hd) (l:List UInt8),hs[k]? = some x→ll[k]? = some l→Sees w 1 x.p x.n x.c (u8s l)
theorem ByL.bl {w w':World} {h:Hd} {hs:List Hd} {ll:List (List UInt8)} (a:ByL w h hs ll) (k:Bl w w'):ByL w' h hs ll:=⟨a.sees.bl k,a.len,fun i x l h1 h2=>(a.each i x l h1 h2).bl k⟩
theorem ByL.n {w:World} {h:Hd} {hs:List Hd} {ll:List (List UInt8)} (a:ByL w h hs ll):h.n=ll.length:=by have:=a.sees.len;rw [List.length_map] at this;have:=a.len;omega
theorem rdBy {P:Program} {w:World} {t e:Nat} {h:Hd} {k:IntKind} {i:Int} {hs:List Hd} {ll:List (List UInt8)} {F:Option Addr→Nat→Nat→World→Prop} (a:ByL w h hs ll) (ht:P.underlying t=some (.slice e)) (hz:(P.info? e).map (·.size)=some 1) (h0:0≤i) (h1:i < (h.n:Int))
  (kk:∀ x l,hs[i.toNat]? = some x→ll[i.toNat]? = some l→Sees w 1 x.p x.n x.c (u8s l)→F x.p x.n x.c w):semK P (Instr.indexAt t (.slice h.p h.n h.c) (.int k i)) w fun v1 w1=>asA v1 fun ad=>ldK P w1 ad fun v2=>asL v2 fun p n c=>F p n c w1:=by
 have hn:=a.n
 have hl:=a.len
 refine rdSee a.sees ht hz h0 h1 fun u hu=>?_
 simp only [List.getElem?_map,Option.map_eq_some_iff] at hu
 obtain ⟨x,hx,rfl⟩:=hu
 have h2:ll[i.toNat]? = some (ll[i.toNat]'(by omega)):=List.getElem?_eq_getElem (by omega)
 exact kL (kk x _ hx h2 (a.each _ _ _ hx h2))
structure Cd where
 t:Hd
 c:Hd
 s:Hd
 d:Hd
 cs:List Hd
 ss:List Hd
abbrev contV (h:Cd) (C:Cont):Value:=.agg #[h.t.v,h.c.v,h.s.v,h.d.v,.int .i64 C.size]
structure ContAt (w:World) (h:Cd) (C:Cont):Prop where
 types:Sees w 3 h.t.p h.t.n h.t.c (zat C.types)
 codes:ByL w h.c h.cs C.codes
 subs:ByL w h.s h.ss C.subs
 data:Sees w 1 h.d.p h.d.n h.d.c (u8s C.data)
theorem ContAt.bl {w w':World} {h:Cd} {C:Cont} (a:ContAt w h C) (k:Bl w w'):ContAt w' h C:=⟨a.types.bl k,a.codes.bl k,a.subs.bl k,a.data.bl k⟩
theorem ContAt.tn {w:World} {h:Cd} {C:Cont} (a:ContAt w h C):h.t.n=C.types.length:=by have:=a.types.len;rw [zbw] at this;omega
theorem callFn {f:FuncId} {args:Array Value} {w:World} {F:Value→World→Prop} (he:∀ args w,(callFunc f args).run Tryz.prog w = .ok (.enter f args) w) (h:zaj Tryz.prog f args w F):zau Tryz.prog (.func (.func f) #[] #[]) args w F:=by
 unfold zau
 show (invoke (.fn (.func f) #[]) (#[]++args)).wp Tryz.prog (nxA Tryz.prog F) (fun _ _=>False) w
 rw [Sem.wp_iff_run]
 have:(invoke (.fn (.func f) #[]) (#[]++args)).run Tryz.prog w = .ok (.enter f args) w:=by simp [invoke,go_sem,he]
 rw [this]
 exact h
def fitIn (first:Bool) (v:Int):Bool:=decide (v ≥ 0) && (decide (v≤127) && (!first || (v == 0)))
def zdr (first:Bool) (v:Int):Bool:=decide (v ≥ 0) && (decide (v≤128) && (!first || (v == 128)))
def zdp (v:Int):Bool:=decide (v ≥ 0) && decide (v≤1023)
theorem cv129 {a:Bool} {v:Int} {w:World} {F:Value→World→Prop} (k:F (.bool (fitIn a v)) w):zau Tryz.prog (.func (.func 129) #[] #[]) #[.bool a,.int .i64 v] w F:=by
 refine callFn (enters_of Tryz.func129 (by kernel_rfl) rfl) (call129 _ _ _ _ ?_)
 unfold F129
 refine ifD (fun h1=>ifD (fun h2=>?_) fun h2=>?_) fun h1=>?_
 ·cases a with
  | false=>refine zco ?_;simpa [fitIn,h1,h2] using k
  | true=>refine zcj ?_;simpa [fitIn,h1,h2] using k
 ·simpa [fitIn,h1,h2] using k
 ·simpa [fitIn,h1] using k
theorem cv131 {a:Bool} {v:Int} {w:World} {F:Value→World→Prop} (k:F (.bool (zdr a v)) w):zau Tryz.prog (.func (.func 131) #[] #[]) #[.bool a,.int .i64 v] w F:=by
 refine callFn (enters_of Tryz.func131 (by kernel_rfl) rfl) (call131 _ _ _ _ ?_)
 unfold F131
 refine ifD (fun h1=>ifD (fun h2=>?_) fun h2=>?_) fun h1=>?_
 ·cases a with
  | false=>refine zco ?_;simpa [zdr,h1,h2] using k
  | true=>refine zcj ?_;simpa [zdr,h1,h2] using k
 ·simpa [zdr,h1,h2] using k
 ·simpa [zdr,h1] using k
theorem cv133 {a:Bool} {v:Int} {w:World} {F:Value→World→Prop} (k:F (.bool (zdp v)) w):zau Tryz.prog (.func (.func 133) #[] #[]) #[.bool a,.int .i64 v] w F:=by
 refine callFn (enters_of Tryz.func133 (by kernel_rfl) rfl) (call133 _ _ _ _ ?_)
 unfold F133
 refine ifD (fun h1=>?_) fun h1=>?_
 ·simpa [zdp,h1] using k
 ·simpa [zdp,h1] using k
theorem cv130 {a:Addr} {w:World} {F:Value→World→Prop} (k:F (.pointer (some a)) w):zau Tryz.prog (.func (.func 130) #[] #[]) #[.pointer (some a)] w F:=by
 refine callFn (enters_of Tryz.func130 (by kernel_rfl) rfl) (call130 _ _ _ ?_)
 unfold F130
 exact k
theorem cv132 {a:Addr} {w:World} {F:Value→World→Prop} (k:F (.pointer (some (a.add 1))) w):zau Tryz.prog (.func (.func 132) #[] #[]) #[.pointer (some a)] w F:=by
 refine callFn (enters_of Tryz.func132 (by kernel_rfl) rfl) (call132 _ _ _ ?_)
 unfold F132
 exact k
theorem cv134 {a:Addr} {w:World} {F:Value→World→Prop} (k:F (.pointer (some (a.add 2))) w):zau Tryz.prog (.func (.func 134) #[] #[]) #[.pointer (some a)] w F:=by
 refine callFn (enters_of Tryz.func134 (by kernel_rfl) rfl) (call134 _ _ _ ?_)
 unfold F134
 exact k
theorem f84 {w:World} {K:Value→World→Prop} (k:∀ w',Bl w w'→K (.agg #[.int .i64 1,.func (.func 129) #[] #[],.func (.func 130) #[] #[],.int .i64 1,.func (.func 131) #[] #[],.func (.func 132) #[] #[],.int .i64 2,.func (.func 133) #[] #[],.func (.func 134) #[] #[]]) w') :
  zaj Tryz.prog 84 #[] w K:=by
 refine call84 _ _ ?_
 unfold F84
 have hh:=Hp.start w
 with_reducible repeat' first|refine kk_ ?_|refine nx hh ?_|refine allW fun w' hh=>?_|exact sd_|refine ai ?_ ?_|exact vr|fail
 exact k _ hh.done
theorem ixBnd0 {a b c d e f:Value} {x y z:Int} {w:World} {F:Value→World→Prop} (k:F (.agg #[.int .i64 x,a,b]) w):semK Tryz.prog (Instr.index 184 (.agg #[.int .i64 x,a,b,.int .i64 y,c,d,.int .i64 z,e,f]) (.int .i64 0)) w F:=zcd (by kernel_rfl) k
theorem ixBnd1 {a b c d e f:Value} {x y z:Int} {w:World} {F:Value→World→Prop} (k:F (.agg #[.int .i64 y,c,d]) w):semK Tryz.prog (Instr.index 184 (.agg #[.int .i64 x,a,b,.int .i64 y,c,d,.int .i64 z,e,f]) (.int .i64 1)) w F:=zcd (by kernel_rfl) k
theorem ixBnd2 {a b c d e f:Value} {x y z:Int} {w:World} {F:Value→World→Prop} (k:F (.agg #[.int .i64 z,e,f]) w):semK Tryz.prog (Instr.index 184 (.agg #[.int .i64 x,a,b,.int .i64 y,c,d,.int .i64 z,e,f]) (.int .i64 2)) w F:=zcd (by kernel_rfl) k
def partsT (most:Int):List (List UInt8)→Int
 | []=>0
 | l::ll=>if l.length=0 then 56 else if (l.length:Int) > most then 2 else partsT most ll
theorem f93 {h:Hd} {hs:List Hd} {ll:List (List UInt8)} {most:Int} {w:World} {K:Value→World→Prop} (a:ByL w h hs ll) (hn:h.n≤1000000000) (k:K (.int .i64 (partsT most ll)) w):zaj Tryz.prog 93 #[h.v,.int .i64 most] w K:=by
 refine call93 _ _ _ _ _ _ ?_
 unfold F93
 have hl:=a.n
 have loop:∀ (m i:Nat),i+m=h.n→partsT most (ll.drop i)=partsT most ll→L93_0 K (m+1) most h.p h.n h.c (h.n:Int) (i:Int) w:=by
  intro m
  induction m with
  | zero =>
   intro i hi hq
   unfold L93_0
   refine ifD (fun h=>by omega) fun _=>?_
   rw [List.drop_of_length_le (by omega)] at hq
   rw [← hq] at k
   exact k
  | succ m ih =>
   intro i hi hq
   unfold L93_0
   refine ifD (fun _=>?_) fun h=>by omega
   refine rdBy a (by with_unfolding_all rfl) (by with_unfolding_all rfl) (by omega) (by omega) fun x l hx h2 hs2=>?_
   simp only [Int.toNat_natCast] at h2
   have hxn:=hs2.bytes
   have hd:ll.drop i=l::ll.drop (i+1):=by
    have hi':i < ll.length:=by omega
    rw [List.getElem?_eq_getElem hi'] at h2
    cases h2
    exact List.drop_eq_getElem_cons hi'
   rw [hd,partsT] at hq
   refine ifE (fun h1=>?_) fun h1=>ifD (fun h2=>?_) fun h2=>?_
   ·rw [if_pos (by omega)] at hq;rw [← hq] at k;exact k
   ·rw [if_neg (by omega),if_pos (by omega)] at hq;rw [← hq] at k;exact k
   ·rw [if_neg (by omega),if_neg (by omega)] at hq
    rw [i64w (by omega) (by omega)]
    exact_mod_cast ih (i+1) (by omega) hq
 exact ⟨h.n+1,by exact_mod_cast loop h.n 0 (by omega) rfl⟩
def fitT (first:Bool) (t:Ty):Bool:=fitIn first t.inn && (zdr first t.out && zdp t.most)
def typesFit (l:List Ty):Bool:=(List.range l.length).all fun j=>fitT (decide (j=0)) (l.getD j ⟨0,0,0⟩)
def zbo (C:Cont):Int :=
 if C.codes.length=0 then 55 else if C.codes.length > 1024 then 55 else
 if C.types.length≠C.codes.length then 54 else
 if partsT 65535 C.codes≠0 then partsT 65535 C.codes else
 if C.subs.length > 256 then 57 else
 if partsT 4294967295 C.subs≠0 then partsT 4294967295 C.subs else
 if C.size > 65535 then 2 else if C.size < C.data.length then 1 else
 if typesFit C.types=true then 0 else 59
theorem l64_2 {x1:Nat} {hd:Cd} {C:Cont} {w0:World} {K:Value→World→Prop} (hn:hd.t.n≤1000000000)
  (kg:typesFit C.types=true→∀ w',Bl w0 w'→K (.int .i64 0) w') (kb:typesFit C.types=false→∀ w',Bl w0 w'→K (.int .i64 59) w') :
  ∀ (m i:Nat) (w:World),i+m=hd.t.n→(∀ j,j < i→fitT (decide (j=0)) (C.types.getD j ⟨0,0,0⟩)=true)→Hp zan w0 w [.see 3 hd.t.p hd.t.n hd.t.c (zat C.types),.own x1 #[hd.t.v,hd.c.v,hd.s.v,hd.d.v,.int .i64 C.size] 27]→L64_2 K (m+1) ⟨x1,0,none⟩ (hd.t.n:Int) (i:Int) w:=by
 intro m
 induction m with
 | zero =>
  intro i w hi hq hh
  have hs:=hh.sees (SeeIn.pos (p:=hd.t.p) (n:=hd.t.n) (c:=hd.t.c))
  have hl:=hs.len
  rw [zbw] at hl
  unfold L64_2
  refine ifD (fun h=>by omega) fun _=>?_
  refine kg ?_ _ hh.done
  unfold typesFit
  rw [List.all_eq_true]
  intro j hj
  exact hq j (by rw [List.mem_range] at hj;omega)
 | succ m ih =>
  intro i w hi hq hh
  have hs:=hh.sees (SeeIn.pos (p:=hd.t.p) (n:=hd.t.n) (c:=hd.t.c))
  have hl:=hs.len
  rw [zbw] at hl
  have bad:fitT (decide (i=0)) (C.types.getD i ⟨0,0,0⟩)=false→typesFit C.types=false:=fun h=>by
   unfold typesFit
   rw [List.all_eq_false]
   exact ⟨i,by rw [List.mem_range];omega,by rw [h];decide⟩
  unfold L64_2
  refine ifD (fun _=>?_) fun h=>by omega
  with_reducible repeat' first|refine kk_ ?_|refine nx hh ?_|refine allW fun w' hh=>?_|exact sd_|refine ai ?_ ?_|exact vr|fail
  refine rdTy hs (by with_unfolding_all rfl) (by with_unfolding_all rfl) (by omega) (by omega) fun t ad ht c0 c1 c2=>?_
  simp only [Int.toNat_natCast] at ht
  have hget:C.types.getD i ⟨0,0,0⟩=t:=by rw [List.getD_eq_getElem?_getD,ht];rfl
  have hfirst:((i:Int) == 0)=decide (i=0):=by
   by_cases h:i=0
   ·subst h;rfl
   ·rw [decide_eq_false h];simpa using h
  repeat' first|(with_reducible first|refine kk_ ?_|refine nx hh ?_|refine allW fun w' hh=>?_|exact sd_|refine ld c0 ?_|refine ld c1 ?_|refine ld c2 ?_)|((with_reducible refine f84 fun w' hb=>?_);replace hh:=hh.bl hb)|(with_reducible first|refine And.intro ?_ ?_|exact vr)|fail
  refine ⟨4,?_⟩
  rw [hget] at bad
  have e1:IntKind.wrap .i64 (0+1)=1:=rfl
  have e2:IntKind.wrap .i64 (1+1)=2:=rfl
  have e3:IntKind.wrap .i64 (2+1)=3:=rfl
  unfold L64_4
  refine ifD (fun _=>?_) fun h=>by omega
  repeat' first|(with_reducible first|refine kk_ ?_|refine nx hh ?_|refine allW fun w' hh=>?_|exact sd_|refine ixBnd0 ?_|refine ixBnd1 ?_|refine ixBnd2 ?_|refine cv130 ?_|refine cv132 ?_|refine cv134 ?_|refine cv129 ?_|refine cv131 ?_|refine cv133 ?_|refine And.intro ?_ ?_|exact vr)|fail
  first|rw [hfirst]|(dsimp only;rw [hfirst])
  cases h1:fitIn (decide (i=0)) t.inn with
  | false =>
   refine zco ?_
   exact kb (bad (by simp [fitT,h1])) _ hh.done
  | true =>
   refine zcj ?_
   rw [e1]
   unfold L64_4
   refine ifD (fun _=>?_) fun h=>by omega
   repeat' first|(with_reducible first|refine kk_ ?_|refine nx hh ?_|refine allW fun w' hh=>?_|exact sd_|refine ixBnd0 ?_|refine ixBnd1 ?_|refine ixBnd2 ?_|refine cv130 ?_|refine cv132 ?_|refine cv134 ?_|refine cv129 ?_|refine cv131 ?_|refine cv133 ?_|refine And.intro ?_ ?_|exact vr)|fail
   first|rw [hfirst]|(dsimp only;rw [hfirst])
   cases h2:zdr (decide (i=0)) t.out with
   | false =>
    refine zco ?_
    exact kb (bad (by simp [fitT,h1,h2])) _ hh.done
   | true =>
    refine zcj ?_
    rw [e2]
    unfold L64_4
    refine ifD (fun _=>?_) fun h=>by omega
    repeat' first|(with_reducible first|refine kk_ ?_|refine nx hh ?_|refine allW fun w' hh=>?_|exact sd_|refine ixBnd0 ?_|refine ixBnd1 ?_|refine ixBnd2 ?_|refine cv130 ?_|refine cv132 ?_|refine cv134 ?_|refine cv129 ?_|refine cv131 ?_|refine cv133 ?_|refine And.intro ?_ ?_|exact vr)|fail
    cases h3:zdp t.most with
    | false =>
     refine zco ?_
     exact kb (bad (by simp [fitT,h1,h2,h3])) _ hh.done
    | true =>
     refine zcj ?_
     first|rw [e3]|(dsimp only;rw [e3])
     unfold L64_4
     refine ifD (fun h=>by omega) fun _=>?_
     unfold J64_3
     rw [i64w (by omega) (by omega)]
     have:=ih (i+1) _ (by omega) (fun j hj=>?_) (hh.sublist (by repeat (first|exact List.Sublist.refl _|apply List.Sublist.cons)))
     ·exact_mod_cast this
     ·by_cases hji:j=i
      ·subst hji;rw [hget];simp [fitT,h1,h2,h3]
      ·exact hq j (by omega)
theorem f64 {hd:Cd} {C:Cont} {w:World} {K:Value→World→Prop} (a:ContAt w hd C) (ht:hd.t.n≤1000000000) (hc:hd.c.n≤1000000000) (hs:hd.s.n≤1000000000)
  (k:∀ w',Bl w w'→K (.int .i64 (zbo C)) w'):zaj Tryz.prog 64 #[contV hd C] w K:=by
 refine call64 _ _ _ _ _ _ _ _ _ _ _ _ _ _ _ ?_
 unfold F64
 have hh:=Hp.start w
 have h1:=a.tn
 have h2:=a.codes.n
 have h3:=a.subs.n
 have h4:=a.data.bytes
 have key:∀ e w',zbo C=e→Bl w w'→K (.int .i64 e) w':=fun e w' he hb=>he ▸ k w' hb
 repeat' first|(with_reducible first|refine kk_ ?_|refine nx hh ?_|refine allW fun w' hh=>?_|exact sd_|refine ifE (fun hc1=>?_) (fun hc1=>?_)|refine And.intro ?_ ?_|exact vr)|fail
 ·unfold J64_1
  refine ifBt (key _ _ ?_ hh.done)
  first|rw [zbo,if_pos (by omega)]|(dsimp only;rw [zbo,if_pos (by omega)])
 ·unfold J64_1
  refine ifD (fun hc2=>key _ _ ?_ hh.done) fun hc2=>?_
  ·first|rw [zbo,if_neg (by omega),if_pos (by omega)]|(dsimp only;rw [zbo,if_neg (by omega),if_pos (by omega)])
  ·repeat' first|(with_reducible first|refine kk_ ?_|refine nx hh ?_|refine allW fun w' hh=>?_|exact sd_|refine ifNe (fun hc3=>?_) (fun hc3=>?_)|refine And.intro ?_ ?_|exact vr)|fail
   ·refine key _ _ ?_ hh.done
    first|rw [zbo,if_neg (by omega),if_neg (by omega),if_pos (by omega)]|(dsimp only;rw [zbo,if_neg (by omega),if_neg (by omega),if_pos (by omega)])
   ·unfold J64_0
    with_reducible repeat' first|refine kk_ ?_|refine nx hh ?_|refine allW fun w' hh=>?_|exact sd_|refine ai ?_ ?_|exact vr|fail
    refine f93 (most:=65535) (a.codes.bl hh.done) hc (kI ?_)
    refine ifNe (fun hc4=>key _ _ ?_ hh.done) (fun hc4=>?_)
    ·first|rw [zbo,if_neg (by omega),if_neg (by omega),if_neg (by omega),if_pos hc4]|(dsimp only;rw [zbo,if_neg (by omega),if_neg (by omega),if_neg (by omega),if_pos hc4])
    ·repeat' first|(with_reducible first|refine kk_ ?_|refine nx hh ?_|refine allW fun w' hh=>?_|exact sd_|refine ifD (fun hc5=>?_) (fun hc5=>?_)|refine And.intro ?_ ?_|exact vr)|fail
     ·refine key _ _ ?_ hh.done
      first|rw [zbo,if_neg (by omega),if_neg (by omega),if_neg (by omega),if_neg (by omega),if_pos (by omega)]|(dsimp only;rw [zbo,if_neg (by omega),if_neg (by omega),if_neg (by omega),if_neg (by omega),if_pos (by omega)])
     ·refine f93 (most:=4294967295) (a.subs.bl hh.done) hs (kI ?_)
      refine ifNe (fun hc6=>key _ _ ?_ hh.done) (fun hc6=>?_)
      ·first|rw [zbo,if_neg (by omega),if_neg (by omega),if_neg (by omega),if_neg (by omega),if_neg (by omega),if_pos hc6]|(dsimp only;rw [zbo,if_neg (by omega),if_neg (by omega),if_neg (by omega),if_neg (by omega),if_neg (by omega),if_pos hc6])
      ·repeat' first|(with_reducible first|refine kk_ ?_|refine nx hh ?_|refine allW fun w' hh=>?_|exact sd_|refine ifD (fun hc7=>?_) (fun hc7=>?_)|refine And.intro ?_ ?_|exact vr)|fail
       ·refine key _ _ ?_ hh.done
        first|rw [zbo,if_neg (by omega),if_neg (by omega),if_neg (by omega),if_neg (by omega),if_neg (by omega),if_neg (by omega),if_pos hc7]|(dsimp only;rw [zbo,if_neg (by omega),if_neg (by omega),if_neg (by omega),if_neg (by omega),if_neg (by omega),if_neg (by omega),if_pos hc7])
       ·refine key _ _ ?_ hh.done
        first|rw [zbo,if_neg (by omega),if_neg (by omega),if_neg (by omega),if_neg (by omega),if_neg (by omega),if_neg (by omega),if_neg (by omega),if_pos (by omega)]|(dsimp only;rw [zbo,if_neg (by omega),if_neg (by omega),if_neg (by omega),if_neg (by omega),if_neg (by omega),if_neg (by omega),if_neg (by omega),if_pos (by omega)])
       ·have base:zbo C=if typesFit C.types=true then 0 else 59:=by
         first|rw [zbo,if_neg (by omega),if_neg (by omega),if_neg (by omega),if_neg (by omega),if_neg (by omega),if_neg (by omega),if_neg (by omega),if_neg (by omega)]|(dsimp only;rw [zbo,if_neg (by omega),if_neg (by omega),if_neg (by omega),if_neg (by omega),if_neg (by omega),if_neg (by omega),if_neg (by omega),if_neg (by omega)])
        refine ⟨hd.t.n+1,?_⟩
        have hh2:=Hp.see (a.types.bl hh.done) hh (fun x hx k hk=>by
         simp only [List.mem_singleton] at hx
         subst hx
         have hk:k=w.heap.size:=hk
         refine ⟨by omega,?_⟩
         rintro ⟨h0,ad,had,rfl⟩
         rw [zbw] at h0
         obtain ⟨ad',had',hlt⟩:=a.types.addr (by decide) (by omega)
         rw [had] at had';cases had'
         omega)
        exact_mod_cast l64_2 ht (fun h w' hb=>key _ _ (by rw [base,if_pos h]) hb) (fun h w' hb=>key _ _ (by rw [base,if_neg (by rw [h];decide)]) hb) hd.t.n 0 _ (by omega) (fun j hj=>by omega) hh2
section
variable {P:Program} {Z:Nat→Prop} {w0 w:World} {L M:List Ent}
theorem sliceZ3 {t e z:Nat} {p:Option Addr} {l c:Nat} {k1 k2 k3:IntKind} {x y:Int} {F:Value→World→Prop} (ht:P.underlying t=some (.slice e)) (hz:(P.info? e).map (·.size)=some z) (h0:0≤x) (h1:x≤y) (h2:y≤(c:Int))
  (kk:F (.slice (if y.toNat=x.toNat then p else p.map (·.add (x.toNat * z))) (y.toNat - x.toNat) (y.toNat - x.toNat)) w) :
  semK P (Instr.sliceAt t (.slice p l c) (some (.int k1 x)) (some (.int k2 y)) (some (.int k3 y))) w F:=by
 refine zcd ?_ kk
 have a1:0≤y∧y≤(c:Int):=⟨by omega,h2⟩
 have a2:0≤y∧y≤(y.toNat:Int):=⟨by omega,by omega⟩
 have a3:0≤x∧x≤(y.toNat:Int):=⟨h0,by omega⟩
 simp [Instr.sliceAt,Instr.slice,Instr.sliceBounds,Instr.sliceBound,asIntOf,run_underlying ht,Go.Proofs.YtlfhngoeecjfpaaGreatDoor.Sh.run_sizeOf hz,a1,a2,a3,Result.andThen]
 have b1:y≤max y 0:=by omega
 have b2:x≤max y 0:=by omega
 simp [b1,b2,h0,a1.1]
theorem Sees.mid {z n c:Nat} {p:Option Addr} {xs:List Value} (h:Sees w z p n c xs) {x y:Nat} (h1:x≤y) (h2:y≤n):Sees w z (if y=x then p else p.map (·.add (x * z))) (y - x) (y - x) ((xs.drop (x * z)).take ((y - x) * z)):=by
 have hle:=h.le
 refine ⟨by rw [List.length_take,List.length_drop,h.len,← Nat.sub_mul];exact Nat.min_eq_left (Nat.mul_le_mul_right z (by omega)),Nat.le_refl _,fun j u hj=>?_⟩
 rw [List.getElem?_take] at hj
 split at hj
 ·rw [List.getElem?_drop] at hj
  obtain ⟨a,rfl,hc⟩:=h.at_ _ u hj
  rename_i hlt
  have:y≠x:=fun e=>by subst e;simp at hlt
  rw [if_neg this]
  refine ⟨a.add (x * z),rfl,?_⟩
  rw [← hc]
  rw [addAdd]
 ·cases hj
end
theorem f28 {Z:Nat→Prop} {w0 w:World} {L:List Ent} {p:Option Addr} {n c:Nat} {l:List UInt8} {K:Value→World→Prop} (hh:Hp Z w0 w L) (hs:Sees w 1 p n c (u8s l)) (hn:n≤1000000000)
  (k:∀ q cap w',Hp Z w0 w' (.row 1 q n cap 5 (u8s l)::L)→K (.slice q n cap) w'):zaj Tryz.prog 28 #[.slice p n c] w K:=by
 refine call28 _ _ _ _ _ ?_
 unfold F28
 have hb:=hs.bytes
 cases p with
 | none =>
  have h0:n=0:=by
   rcases Nat.eq_zero_or_pos n with h|h
   ·exact h
   ·obtain ⟨a,ha,_⟩:=hs.addr (by decide) h;cases ha
  subst h0
  have hl:l=[]:=List.length_eq_zero_iff.1 hb.symm
  subst hl
  refine ifBt ?_
  exact k none 0 w (hh.rowNil 1 5)
 | some a =>
  refine ifBf ?_
  with_reducible refine zci hh fun w1 hh1 hb1=>?_
  have hg:=size_alloc w (.cells #[] 5)
  have hrow:RowZ w1 1 (.slice (some ⟨w.heap.size,0,none⟩) 0 0) 5 0 []:=⟨rfl,.inr ⟨w.heap.size,0,#[],rfl,Nat.zero_le _,hh1.own List.mem_cons_self,Nat.zero_le _,by decide,rfl,rfl⟩⟩
  have hh2:Hp Z w0 w1 (.row 1 (some ⟨w.heap.size,0,none⟩) 0 0 5 []::L):=hh.add hb1 hrow fun i hi=>by
   have hi:Blk (.slice (some ⟨w.heap.size,0,none⟩) 0 0) i:=hi
   unfold Blk at hi;simp [Value.ownBlock] at hi;omega
  refine appS (P:=Tryz.prog) (t:=22) (e:=5) hrow (hs.bl hb1) (by decide) (by with_unfolding_all rfl) (by with_unfolding_all rfl) (by with_unfolding_all rfl) (u8s_one l) (by omega) (by decide) fun q cap w2 hr he hq=>?_
  simp only [Nat.zero_add,List.nil_append] at hr hq
  refine kL ?_
  rw [Nat.zero_add]
  exact k q cap w2 (hh2.turn .here he hr fun i hi=>(hq i hi).imp id fun h=>Nat.le_of_eq h.symm)
def beT (l:List UInt8):Int:=l.foldl (fun a b=>a * 256+(b.toNat:Int)) 0
theorem beT_app (l:List UInt8) (b:UInt8):beT (l++[b])=beT l * 256+b.toNat:=by simp [beT]
theorem beT_lt (l:List UInt8):0≤beT l∧beT l < 256 ^ l.length:=by
 have key:∀ (l:List UInt8) (a:Int) (k:Nat),0≤a→a < 256 ^ k→0≤l.foldl (fun a b=>a * 256+(b.toNat:Int)) a∧l.foldl (fun a b=>a * 256+(b.toNat:Int)) a < 256 ^ (k+l.length):=by
  intro l
  induction l with
  | nil=>intro a k h0 h1;simpa using ⟨h0,h1⟩
  | cons b l ih =>
   intro a k h0 h1
   have hb:=b.toNat_lt
   have:=ih (a * 256+b.toNat) (k+1) (by omega) (by rw [Int.pow_succ];omega)
   rw [show k+(b::l).length=k+1+l.length by simp;omega]
   exact this
 have:=key l 0 0 (by omega) (by decide)
 simpa [beT] using this
def zbq (l:List UInt8) (a s:Nat):Except (Int × Int) Int:=if a+s > l.length then .error (50,l.length) else .ok (beT ((l.drop a).take s))
abbrev rdE (rb:Nat) (p:Option Addr) (n c:Nat) (a:Nat) (t:TypeId):Ent:=.own rb #[.slice p n c,.int .i64 (a:Int)] t
section
variable {Z:Nat→Prop} {w0 w:World} {L M R:List Ent} {rb n c t:Nat} {p:Option Addr} {l:List UInt8} {K:Value→World→Prop} {X:List PanicEntry→World→Prop}
theorem or256' {x y:Int} (h0:0≤x) (h1:x < 1099511627776) (h2:0≤y) (h3:y < 256):bitI .or .i64 (IntKind.wrap .i64 (x * 2 ^ (min (8:Int).toNat 64))) (IntKind.wrap .i64 y)=x * 256+y:=by
 rw [show (2:Int) ^ (min (8:Int).toNat 64)=256 from rfl,i64w (n:=x * 256) (by omega) (by omega),i64w (n:=y) (by omega) (by omega)]
 exact or256 h0 (by omega) h2 h3
theorem c43 {a s:Nat} (hh:Hp Z w0 w (rdE rb p n c a t::.see 1 p n c (u8s l)::R)) (hs:s≤4) (hn:n≤1000000000) (ha:a≤n)
  (kx:∀ x,zbq l a s = .error x→X (wrongE x.1 x.2) w) (kk:∀ v,zbq l a s = .ok v→∀ w',Hp Z w0 w' (rdE rb p n c (a+s) t::.see 1 p n c (u8s l)::R)→K (.tuple #[.int .i64 v,.int .i64 a]) w') :
  zbt Tryz.prog 43 #[.pointer (some ⟨rb,0,none⟩),.int .i64 (s:Int)] w K X:=by
 refine call43 _ _ _ _ _ ?_
 unfold F43
 have hb:=(hh.sees (SeeIn.pos (p:=p) (n:=n) (c:=c))).bytes
 with_reducible repeat' first|refine kk_ ?_|refine nx hh ?_|refine allW fun w' hh=>?_|exact sd_|refine ai ?_ ?_|exact vr|fail
 first|rw [i64w (by omega) (by omega)]|(dsimp only;rw [i64w (by omega) (by omega)])
 refine ifD (fun hc=>?_) (fun hc=>?_)
 ·with_reducible repeat' first|refine kk_ ?_|refine nx hh ?_|refine allW fun w' hh=>?_|exact sd_|refine ai ?_ ?_|exact vr|fail
  have:=kx (50,l.length) (by rw [zbq,if_pos (by omega)])
  rw [← hb] at this
  exact this
 ·unfold J43_0
  have hv:zbq l a s = .ok (beT ((l.drop a).take s)):=by rw [zbq,if_neg (by omega)]
  have loop:∀ (m j:Nat) (w:World),j+m=s→Hp Z w0 w (rdE rb p n c (a+j) t::.see 1 p n c (u8s l)::R)→L43_1 K X (m+1) (some ⟨rb,0,none⟩) (beT ((l.drop a).take j)) (a:Int) (s:Int) (j:Int) w:=by
   intro m
   induction m with
   | zero =>
    intro j w hj hh
    unfold L43_1
    refine ifD (fun h=>by omega) fun _=>?_
    have:j=s:=by omega
    subst this
    exact kk _ hv w hh
   | succ m ih =>
    intro j w hj hh
    unfold L43_1
    refine ifD (fun _=>?_) fun h=>by omega
    have hlt:=beT_lt ((l.drop a).take j)
    have hlen:((l.drop a).take j).length≤3:=by rw [List.length_take];omega
    have hlt2:beT ((l.drop a).take j) < 16777216:=Int.lt_of_lt_of_le hlt.2 (by
     have:(256:Int) ^ ((l.drop a).take j).length≤256 ^ 3:=by
      have:=Nat.pow_le_pow_right (n:=256) (by decide) hlen
      exact_mod_cast this
     simpa using this)
    with_reducible repeat' first|refine kk_ ?_|refine nx hh ?_|refine allW fun w' hh=>?_|exact sd_|refine ai ?_ ?_|exact vr|fail
    refine rdC hh (by with_unfolding_all rfl) (by with_unfolding_all rfl) (by omega) (by omega) (fun b hb2=>?_)
    have hbl:=b.toNat_lt
    with_reducible repeat' first|refine kk_ ?_|refine nx hh ?_|refine allW fun w' hh=>?_|exact sd_|refine ai ?_ ?_|exact vr|fail
    first|rw [or256' hlt.1 (by omega) (by omega) (by omega),i64w (by omega) (by omega)]|(dsimp only;rw [or256' hlt.1 (by omega) (by omega) (by omega),i64w (by omega) (by omega)])
    have hget:(l.drop a)[j]? = some b:=by rw [List.getElem?_drop];rw [← hb2];congr 1
    have e1:(l.drop a).take (j+1)=(l.drop a).take j++[b]:=by rw [List.take_add_one,hget];rfl
    have e2:=beT_app ((l.drop a).take j) b
    rw [← e1] at e2
    first|rw [← e2]|(dsimp only;rw [← e2])
    have e3:IntKind.wrap .i64 (((a+j:Nat):Int)+1)=((a+(j+1):Nat):Int):=by rw [i64w (by omega) (by omega)];omega
    rw [e3] at hh
    exact_mod_cast ih (j+1) _ (by omega) hh
  refine ⟨s+1,?_⟩
  exact_mod_cast loop s 0 w (by omega) hh
end
def wantT (l:List UInt8) (a:Nat) (v e:Int):Except (Int × Int) Unit :=
 match zbq l a 1 with
 | .error x=>.error x
 | .ok y=>if y=v then .ok () else .error (e,a)
def zcr (l:List UInt8) (s:Nat):Nat→Nat→Except (Int × Int) (List Int)
 | 0,_=>.ok []
 | k+1,a=>match zbq l a s with
  | .error x=>.error x
  | .ok v=>if v > 0 then (match zcr l s k (a+s) with|.error x=>.error x|.ok r=>.ok (v::r)) else .error (56,a)
section
variable {Z:Nat→Prop} {w0 w:World} {L R:List Ent} {M:Ent→List Ent} {rb n c t:Nat} {p:Option Addr} {l:List UInt8} {K:Value→World→Prop} {X:List PanicEntry→World→Prop} {cs:Array Value}
theorem f43 {a s:Nat} (hh:Hp Z w0 w L) [hm:OwnM L rb cs t M] (hcs:cs=#[.slice p n c,.int .i64 (a:Int)]) [hse:SeeIn L p n c 1 (u8s l)] (hs:s≤4) (hn:n≤1000000000) (ha:a≤n)
  (kx:∀ x,zbq l a s = .error x→X (wrongE x.1 x.2) w) (kk:∀ v,zbq l a s = .ok v→a+s≤n→∀ w',Hp Z w0 w' (M (rdE rb p n c (a+s) t))→K (.tuple #[.int .i64 v,.int .i64 a]) w') :
  zbt Tryz.prog 43 #[.pointer (some ⟨rb,0,none⟩),.int .i64 (s:Int)] w K X:=by
 subst hcs
 have hb:=(hh.sees hse.pos).bytes
 obtain ⟨R,h1,h2⟩:=hm.two hse.pos.mem (by intro h;cases h)
 refine c43 (hh.perm h1) hs hn ha kx fun v hv w' hh'=>kk v hv ?_ w' (hh'.perm (h2 _).symm)
 unfold zbq at hv
 split at hv
 ·cases hv
 ·omega
theorem c42 {a:Nat} {v e:Int} (hh:Hp Z w0 w (rdE rb p n c a t::.see 1 p n c (u8s l)::R)) (hn:n≤1000000000) (ha:a≤n)
  (kx:∀ x,wantT l a v e = .error x→∀ a' w',Hp Z w0 w' (rdE rb p n c a' t::.see 1 p n c (u8s l)::R)→X (wrongE x.1 x.2) w') (kk:wantT l a v e = .ok ()→a+1≤n→∀ w',Hp Z w0 w' (rdE rb p n c (a+1) t::.see 1 p n c (u8s l)::R)→K (.tuple #[]) w') :
  zbt Tryz.prog 42 #[.pointer (some ⟨rb,0,none⟩),.int .i64 v,.int .i64 e] w K X:=by
 refine call42 _ _ _ _ _ _ ?_
 unfold F42
 refine f43 (s:=1) (a:=a) hh rfl (by decide) hn ha (fun x hx=>kx x (by rw [wantT,hx]) a w hh) fun y hy hle w1 hh1=>?_
 have hh:=hh1
 with_reducible repeat' first|refine kk_ ?_|refine nx hh ?_|refine allW fun w' hh=>?_|exact sd_|refine ai ?_ ?_|exact vr|fail
 refine f44 (fun hb=>?_) (fun hb=>?_)
 ·refine kk ?_ hle _ hh
  first|rw [wantT,hy]|(dsimp only;rw [wantT,hy])
  simp only
  first|rw [if_pos (by simpa using hb)]|(dsimp only;rw [if_pos (by simpa using hb)])
 ·exact kx (e,a) (by rw [wantT,hy];simp only;rw [if_neg (by simpa using hb)]) _ _ hh
theorem f42 {a:Nat} {v e:Int} (hh:Hp Z w0 w L) [hm:OwnM L rb cs t M] (hcs:cs=#[.slice p n c,.int .i64 (a:Int)]) [hse:SeeIn L p n c 1 (u8s l)] (hn:n≤1000000000) (ha:a≤n)
  (kx:∀ x,wantT l a v e = .error x→∀ a' w',Hp Z w0 w' (M (rdE rb p n c a' t))→X (wrongE x.1 x.2) w') (kk:wantT l a v e = .ok ()→a+1≤n→∀ w',Hp Z w0 w' (M (rdE rb p n c (a+1) t))→K (.tuple #[]) w') :
  zbt Tryz.prog 42 #[.pointer (some ⟨rb,0,none⟩),.int .i64 v,.int .i64 e] w K X:=by
 subst hcs
 obtain ⟨R,h1,h2⟩:=hm.two hse.pos.mem (by intro h;cases h)
 exact c42 (hh.perm h1) hn ha (fun x hx a' w' hh'=>kx x hx a' w' (hh'.perm (h2 _).symm)) fun h1 hle w' hh'=>kk h1 hle w' (hh'.perm (h2 _).symm)
theorem c45 {a k s:Nat} (hh:Hp Z w0 w (rdE rb p n c a t::.see 1 p n c (u8s l)::R)) (hs:s≤4) (hs0:1≤s) (hk:k≤2000) (hn:n≤1000000000) (ha:a≤n)
  (kx:∀ x,zcr l s k a = .error x→∀ a' w',Hp Z w0 w' (rdE rb p n c a' t::.see 1 p n c (u8s l)::R)→X (wrongE x.1 x.2) w')
  (kk:∀ r,zcr l s k a = .ok r→a+k * s≤n→∀ q m cap w',m=r.length→Hp Z w0 w' (.row 1 q m cap 3 (ints r)::rdE rb p n c (a+k * s) t::.see 1 p n c (u8s l)::R)→K (.tuple #[.slice q m cap,.int .i64 r.sum]) w') :
  zbt Tryz.prog 45 #[.pointer (some ⟨rb,0,none⟩),.int .i64 (k:Int),.int .i64 (s:Int)] w K X:=by
 refine call45 _ _ _ _ _ _ ?_
 unfold F45
 with_reducible repeat' first|refine kk_ ?_|refine nx hh ?_|refine allW fun w' hh=>?_|exact sd_|refine ai ?_ ?_|exact vr|fail
 have hmin:(if (n:Int) < (k:Int) then (n:Int) else (k:Int))=((min n k:Nat):Int):=by split <;> omega
 first|rw [hmin]|(dsimp only;rw [hmin])
 refine makeR (z:=.int .i64 0) (by with_unfolding_all rfl) (by with_unfolding_all rfl) (by with_unfolding_all rfl) (by omega) (by decide) fun w1 hrow hb1 hsz=>?_
 replace hh:Hp Z w0 w1 (.row 1 (some ⟨w.heap.size,0,none⟩) 0 (min n k) 3 (ints [])::rdE rb p n c a t::.see 1 p n c (u8s l)::R):=hh.add hb1 hrow fun i hi=>by
  have hi:Blk (.slice (some ⟨w.heap.size,0,none⟩) 0 (min n k)) i:=hi
  unfold Blk at hi;simp [Value.ownBlock] at hi;omega
 refine kL ⟨k+1,?_⟩
 have hh0:=hh
 clear hh
 have hfield:∀ a v,zbq l a s = .ok v→0≤v∧v < 4294967296:=by
  intro a v hv
  unfold zbq at hv
  split at hv
  ·cases hv
  ·cases hv
   have h1:=beT_lt ((l.drop a).take s)
   have hlen:((l.drop a).take s).length≤4:=by rw [List.length_take];omega
   refine ⟨h1.1,Int.lt_of_lt_of_le h1.2 ?_⟩
   have:(256:Int) ^ ((l.drop a).take s).length≤256 ^ 4:=by
    have:=Nat.pow_le_pow_right (n:=256) (by decide) hlen
    exact_mod_cast this
   simpa using this
 have loop:∀ (m j:Nat) (acc:List Int) (q:Option Addr) (g cap:Nat) (w:World),j+m=k→g=j→acc.length=j→0≤acc.sum→acc.sum≤4294967296 * j→a+j * s≤n →
   (zcr l s k a=match zcr l s m (a+j * s) with|.error x=>.error x|.ok r=>.ok (acc++r)) →
   Hp Z w0 w (.row 1 q g cap 3 (ints acc)::rdE rb p n c (a+j * s) t::.see 1 p n c (u8s l)::R)→L45_0 K X (m+1) (some ⟨rb,0,none⟩) (s:Int) q g cap acc.sum (k:Int) (j:Int) w:=by
  intro m
  induction m with
  | zero =>
   intro j acc q g cap w hj hg hal h0 h1 hle hq hh
   unfold L45_0
   refine ifD (fun h=>by omega) fun _=>?_
   have hjk:j=k:=by omega
   subst hjk
   simp only [zcr,List.append_nil] at hq
   exact kk acc hq hle q g cap w (by omega) hh
  | succ m ih =>
   intro j acc q g cap w hj hg hal h0 h1 hle hq hh
   unfold L45_0
   refine ifD (fun _=>?_) fun h=>by omega
   rw [zcr] at hq
   refine f43 (s:=s) (a:=a+j * s) hh rfl hs hn hle (fun x hx=>kx x (by rw [hq,hx]) _ w hh.tail) fun v hv hle2 w1 hh1=>?_
   have hh:=hh1
   rw [hv] at hq
   simp only at hq
   have hvv:=hfield _ _ hv
   with_reducible repeat' first|refine kk_ ?_|refine nx hh ?_|refine allW fun w' hh=>?_|exact sd_|refine ai ?_ ?_|exact vr|fail
   refine f44 (fun hb=>?_) (fun hb=>?_)
   ·have hv0:v > 0:=by simpa using hb
    rw [if_pos hv0] at hq
    have hmul:(j+1) * s=j * s+s:=Nat.succ_mul j s
    have hsum:(acc++[v]).sum=acc.sum+v:=by simp
    repeat' first|(with_reducible first|refine kk_ ?_|refine nx hh ?_|refine allW fun w' hh=>?_|exact sd_)|((with_reducible refine appH hh (by with_unfolding_all rfl) (by with_unfolding_all rfl) (by with_unfolding_all rfl) (by with_unfolding_all rfl) (by with_unfolding_all rfl) (by with_unfolding_all rfl) (by with_unfolding_all rfl) (by omega) (by with_unfolding_all rfl) fun g2 cap2 w4 hh=>?_);(replace hh:=hh.tail))|(with_reducible first|refine And.intro ?_ ?_|exact vr)|fail
    first|rw [i64w (n:=acc.sum+v) (by omega) (by omega),i64w (n:=(j:Int)+1) (by omega) (by omega),← hsum]|(dsimp only;rw [i64w (n:=acc.sum+v) (by omega) (by omega),i64w (n:=(j:Int)+1) (by omega) (by omega),← hsum])
    have e1:ints acc++#[Value.int .i64 v].toList=ints (acc++[v]):=by simp [ints]
    rw [e1] at hh
    exact_mod_cast ih (j+1) (acc++[v]) _ _ _ _ (by omega) (by omega) (by simp;omega) (by rw [hsum];omega) (by rw [hsum];omega) (by omega) (by
     first|rw [hq,hmul,← Nat.add_assoc]|(dsimp only;rw [hq,hmul,← Nat.add_assoc])
     cases zcr l s m (a+j * s+s) with
     | error x=>rfl
     | ok r=>simp) (by rw [hmul,← Nat.add_assoc];exact hh)
   ·have hv0:¬ v > 0:=by simpa using hb
    rw [if_neg hv0] at hq
    exact kx (56,((a+j * s:Nat):Int)) hq _ _ hh.tail
 exact_mod_cast loop k 0 [] _ 0 (min n k) w1 (by omega) rfl rfl (by simp) (by simp) (by omega) (by
  rw [Nat.zero_mul,Nat.add_zero]
  cases zcr l s k a <;> rfl) (by simpa using hh0)
theorem f45 {a k s:Nat} (hh:Hp Z w0 w L) [hm:OwnM L rb cs t M] (hcs:cs=#[.slice p n c,.int .i64 (a:Int)]) [hse:SeeIn L p n c 1 (u8s l)] (hs:s≤4) (hs0:1≤s) (hk:k≤2000) (hn:n≤1000000000) (ha:a≤n)
  (kx:∀ x,zcr l s k a = .error x→∀ a' w',Hp Z w0 w' (M (rdE rb p n c a' t))→X (wrongE x.1 x.2) w')
  (kk:∀ r,zcr l s k a = .ok r→a+k * s≤n→∀ q m cap w',m=r.length→Hp Z w0 w' (.row 1 q m cap 3 (ints r)::M (rdE rb p n c (a+k * s) t))→K (.tuple #[.slice q m cap,.int .i64 r.sum]) w') :
  zbt Tryz.prog 45 #[.pointer (some ⟨rb,0,none⟩),.int .i64 (k:Int),.int .i64 (s:Int)] w K X:=by
 subst hcs
 obtain ⟨R,h1,h2⟩:=hm.two hse.pos.mem (by intro h;cases h)
 exact c45 (hh.perm h1) hs hs0 hk hn ha (fun x hx a' w' hh'=>kx x hx a' w' (hh'.perm (h2 _).symm)) fun r h1 hle q m cap w' hm hh'=>kk r h1 hle q m cap w' hm (hh'.perm ((h2 _).symm.cons _))
end
end Go.Proofs.YtlfhngoeecjfpaaGreatDoor.B
namespace Go.Proofs.YtlfhngoeecjfpaaGreatDoor.Sh
open Go Go.RowKit
def repC (z:List Value):Nat→List Value
 | 0=>[]
 | n+1=>z++repC z n
theorem repC_len (z:List Value):∀ n,(repC z n).length=n * z.length
 | 0=>by simp [repC]
 | n+1=>by simp [repC,repC_len z n,Nat.succ_mul];omega
theorem repC_get (z:List Value) (hz:0 < z.length):∀ (n i:Nat),i < n * z.length→(repC z n)[i]? = z[i % z.length]?
 | 0,i,h=>by simp at h
 | n+1,i,h=>by
  rw [repC]
  by_cases hi:i < z.length
  ·rw [List.getElem?_append_left hi,Nat.mod_eq_of_lt hi]
  ·rw [List.getElem?_append_right (by omega),repC_get z hz n _ (by rw [Nat.succ_mul] at h;omega),← Nat.mod_eq_sub_mod (by omega)]
theorem madeC (z:Array Value) (hz:0 < z.size) (n:Nat):madeCells z (n * z.size)=(repC z.toList n).toArray:=by
 apply Array.ext'
 apply List.ext_getElem?
 intro i
 by_cases hi:i < n * z.size
 ·have h1:=repC_get z.toList (by simpa using hz) n i (by simpa using hi)
  have hm:i % z.size < z.size:=Nat.mod_lt _ hz
  simp only [List.getElem?_toArray] at *
  rw [show (madeCells z (n * z.size)).toList[i]? = some (z[i % z.size]!) by simp [madeCells,hi]]
  rw [h1]
  simp [hm]
 ·rw [List.getElem?_eq_none (by simp [size_madeCells];omega),List.getElem?_eq_none (by simp [repC_len];omega)]
section
variable {P:Program} {Z:Nat→Prop} {w0 w:World} {L M:List Ent}
theorem makeZ {t e by' n z:Nat} {zv:Value} {k1 k2:IntKind} {F:Value→World→Prop} (h:Hp Z w0 w L) (ht:P.underlying t=some (.slice e)) (hi:(P.info? e).map (fun i=>(i.zero,i.size,i.bytes))=some (some zv,z,by')) (hz:zv.cells.size=z) (hz0:Nat.ble 1 z=true) (hn:n≤1073741824) (hb:Nat.ble by' 65536=true)
  (kk:∀ w',Hp Z w0 w' (.own w.heap.size (repC zv.cells.toList n).toArray e::L)→Bl w w'→F (.slice (some ⟨w.heap.size,0,none⟩) n n) w') :
  semK P (Instr.makeSlice t (.int k1 (n:Int)) (.int k2 (n:Int))) w F:=by
 rw [Nat.ble_eq] at hz0 hb
 obtain ⟨i,hi',hzz⟩:=Option.map_eq_some_iff.1 hi
 simp only [Prod.mk.injEq] at hzz
 obtain ⟨hz1,hs,hbb⟩:=hzz
 have hm:maxLen=9223372036854775807:=rfl
 have hbn:i.bytes * n≤65536 * 1073741824:=Nat.mul_le_mul (by omega) hn
 have hb1:(i.bytes:Int) * (n:Int)≤281474976710656:=by
  have h:((i.bytes * n:Nat):Int)≤281474976710656:=by omega
  rwa [Int.natCast_mul] at h
 have hr:=run_make (P:=P) w t e i zv ht hi' hz1 k1 k2 n n (by omega) (by omega) hb1 (by omega)
 simp only [Int.toNat_natCast,hs] at hr
 rw [← hz,madeC _ (by omega)] at hr
 exact zcd hr (kk _ (h.add ((Bl.refl w).alloc _) (Own.new w _ e) fun i hi=>Nat.le_of_eq hi.symm) ((Bl.refl w).alloc _))
def putC:List Value→Nat→List Value→List Value
 | cs,_,[]=>cs
 | cs,o,v::vs=>putC (cs.set o v) (o+1) vs
theorem Own.setCells {b:Nat} {t:TypeId}:∀ (vs cs:List Value) (o:Nat) (w:World),Own w b cs.toArray t→o+vs.length≤cs.length→Own (w.setCells b o vs) b (putC cs o vs).toArray t
 | [],cs,o,w,h,_=>h
 | v::vs,cs,o,w,h,hl=>by
  simp only [List.length_cons] at hl
  have h1:=(setO (v:=v) (i:=o) h (by simp;omega)).1
  rw [World.setCells,putC]
  refine Own.setCells vs (cs.set o v) (o+1) _ ?_ (by rw [List.length_set];omega)
  simpa using h1
theorem heap_setCells {b:Nat}:∀ (vs:List Value) (o:Nat) (w:World),Ext (fun k=>k=b) w (w.setCells b o vs)
 | [],o,w=>Ext.refl w
 | v::vs,o,w=>by
  rw [World.setCells]
  refine Ext.trans (S':=fun k=>k=b) ?_ (heap_setCells vs (o+1) _) fun k _ h=>h
  exact ⟨rfl,rfl,rfl,by simp [World.setCell],fun k hk hb=>Below.heap_setCell _ _ _ _ hb⟩
theorem stMid {b o:Nat} {cs vs:List Value} {t ty:TypeId} {F:World→Prop} (h:Hp Z w0 w L) (hm:Pos L (.own b cs.toArray t) (.own b (putC cs o vs).toArray t) M) (hl:o+vs.length≤cs.length) (hz:(P.info? ty).map (·.size)=some vs.length) (h1:onesB vs=true)
  (k:∀ w',Hp Z w0 w' M→Ext (· = b) w w'→F w'):semU P (Instr.storeAt ty (.pointer (some ⟨b,o,none⟩)) (.agg vs.toArray)) w F:=by
 have ho:Own w b cs.toArray t:=h.all _ hm.mem
 have hr:=run_storeAt_mid (P:=P) w b o ty vs.toArray (fun j hj=>⟨by
  rw [ho.cell];simp at hj;simp;omega,ho.frozen⟩) (by simpa using hz) (by
  rw [Array.all_eq_true];intro i hi;exact onesB_all _ h1 _ (by simp))
 have he:=heap_setCells (b:=b) vs o w
 refine semU_of hr (k _ (h.turn hm he ?_ fun i hi=>.inl hi) he)
 exact Own.setCells vs cs o w ho hl
end
theorem makeRZ {P:Program} {Z:Nat→Prop} {w0 w:World} {L:List Ent} {t e by' n z:Nat} {zv:Value} {F:Value→World→Prop} (h:Hp Z w0 w L) (ht:P.underlying t=some (.slice e)) (hi:(P.info? e).map (fun i=>(i.zero,i.size,i.bytes))=some (some zv,z,by')) (hz:zv.cells.size=z) (hz0:Nat.ble 1 z=true) (hzz:Nat.ble z 1000=true) (hn:n≤1073741824) (hb:Nat.ble by' 65536=true)
  (kk:∀ w',Hp Z w0 w' (.row z (some ⟨w.heap.size,0,none⟩) 0 n e []::L)→F (.slice (some ⟨w.heap.size,0,none⟩) 0 n) w') :
  semK P (Instr.makeSlice t (.int .i64 0) (.int .i64 (n:Int))) w F:=by
 rw [Nat.ble_eq] at hz0 hb hzz
 obtain ⟨i,hi',hq⟩:=Option.map_eq_some_iff.1 hi
 simp only [Prod.mk.injEq] at hq
 obtain ⟨hz1,hs,hbb⟩:=hq
 have hm:maxLen=9223372036854775807:=rfl
 have hbn:i.bytes * n≤65536 * 1073741824:=Nat.mul_le_mul (by omega) hn
 have hb1:(i.bytes:Int) * (n:Int)≤281474976710656:=by
  have h:((i.bytes * n:Nat):Int)≤281474976710656:=by omega
  rwa [Int.natCast_mul] at h
 have hr:=run_make (P:=P) w t e i zv ht hi' hz1 .i64 .i64 0 n (by omega) (by omega) hb1 (by omega)
 simp only [Int.toNat_natCast,Int.toNat_zero,hs] at hr
 have hnz:n * z≤1073741824 * 1000:=Nat.mul_le_mul hn hzz
 refine zcd hr (kk _ (h.add ((Bl.refl w).alloc _) (x:=.row z (some ⟨w.heap.size,0,none⟩) 0 n e []) ?_ fun i hi=>?_))
 ·exact ⟨by simp,.inr ⟨w.heap.size,n,madeCells zv.cells (n * z),rfl,Nat.zero_le _,Own.new _ _ _,Nat.zero_le _,by omega,by rw [size_madeCells],by simp⟩⟩
 ·have hi:Blk (.slice (some ⟨w.heap.size,0,none⟩) 0 n) i:=hi
  unfold Blk at hi;simp [Value.ownBlock] at hi;omega
section
variable {P:Program} {Z:Nat→Prop} {w0 w:World} {L M N:List Ent}
theorem Hp.recast (h:Hp Z w0 w (M++L)) (ha:∀ x∈N,x.at_ w) (hp:N.Pairwise Apart) (hm:∀ x∈N,∀ k,x.mine k→∃ y∈M,y.mine k) (hf:∀ x∈N,∀ k,x.foot k→∃ y∈M,y.foot k):Hp Z w0 w (N++L):=by
 obtain ⟨p1,p2,p3⟩:=List.pairwise_append.1 h.apart
 refine ⟨h.ext,fun x hx=>?_,List.pairwise_append.2 ⟨hp,p2,fun x hx y hy k=>⟨fun h1 h2=>?_,fun h1 h2=>?_⟩⟩,fun x hx k hk=>?_⟩
 ·rcases List.mem_append.1 hx with hx|hx
  ·exact ha x hx
  ·exact h.all x (List.mem_append_right _ hx)
 ·obtain ⟨z,hz,hzk⟩:=hm x hx k h1
  exact (p3 z hz y hy k).1 hzk h2
 ·obtain ⟨z,hz,hzk⟩:=hf x hx k h1
  exact (p3 z hz y hy k).2 hzk h2
 ·rcases List.mem_append.1 hx with hx|hx
  ·obtain ⟨z,hz,hzk⟩:=hm x hx k hk
   exact h.may z (List.mem_append_left _ hz) k hzk
  ·exact h.may x (List.mem_append_right _ hx) k hk
end
structure Hdr where
 p:Option Addr
 n:Nat
 c:Nat
abbrev Hdr.v (h:Hdr):Value:=.slice h.p h.n h.c
structure RowsAt (w:World) (gc:Nat) (t e:TypeId) (hs:List Hdr) (cl:List (List Value)):Prop where
 own:Own w gc (hs.map Hdr.v).toArray t
 len:hs.length=cl.length
 row:∀ (k:Nat) (h:Hdr) (l:List Value),hs[k]? = some h→cl[k]? = some l→RowZ w 1 h.v e h.n l
 apart:∀ (j k:Nat) (h h':Hdr) (g:Nat),hs[j]? = some h→hs[k]? = some h'→Blk h.v g→Blk h'.v g→j=k
 gc:∀ (k:Nat) (h:Hdr),hs[k]? = some h→¬ Blk h.v gc
def rowsS (gc:Nat) (hs:List Hdr):Nat→Prop:=fun g=>g=gc∨∃ h∈hs,Blk h.v g
abbrev rowsE (gc:Nat) (t e:TypeId) (hs:List Hdr) (cl:List (List Value)):Ent:=.ours (rowsS gc hs) fun w=>RowsAt w gc t e hs cl
theorem own_same {w w':World} {b:Nat} {cs:Array Value} {t:TypeId} (h:Own w b cs t) (hk:w'.heap[b]? = w.heap[b]?):Own w' b cs t:=hk.trans h
theorem rowZ_same {w w':World} {z:Nat} {v:Value} {e n:Nat} {xs:List Value} (h:RowZ w z v e n xs) (hk:∀ g,Blk v g→w'.heap[g]? = w.heap[g]?):RowZ w' z v e n xs:=by
 refine ⟨h.1,h.2.imp id ?_⟩
 rintro ⟨g,cap,cur,rfl,hb,hg,r⟩
 exact ⟨g,cap,cur,rfl,hb,(hk g rfl).trans hg,r⟩
theorem rowsE_on {w:World} {gc:Nat} {t e:TypeId} {hs:List Hdr} {cl:List (List Value)} (h:RowsAt w gc t e hs cl):(rowsE gc t e hs cl).at_ w:=by
 refine ⟨h,fun k hk=>?_,fun v v' hv hk=>⟨own_same hv.own (hk _ (.inl rfl)),hv.len,fun j x l h1 h2=>rowZ_same (hv.row j x l h1 h2) fun g hg=>hk g (.inr ⟨x,List.mem_of_getElem? h1,hg⟩),hv.apart,hv.gc⟩⟩
 rcases hk with rfl|⟨x,hx,hb⟩
 ·exact h.own.lt
 ·obtain ⟨j,hj,hx⟩:=List.getElem_of_mem hx
  have h1:hs[j]? = some x:=by rw [List.getElem?_eq_getElem hj,hx]
  have h2:cl[j]? = some (cl[j]'(by rw [← h.len];exact hj)):=List.getElem?_eq_getElem _
  exact (h.row j x _ h1 h2).lt hb
structure RestAt (w:World) (e:TypeId) (hs:List Hdr) (cl:List (List Value)) (s:Nat):Prop where
 row:∀ (k:Nat) (h:Hdr) (l:List Value),k≠s→hs[k]? = some h→cl[k]? = some l→RowZ w 1 h.v e h.n l
def restS (hs:List Hdr) (s:Nat):Nat→Prop:=fun g=>∃ (k:Nat) (h:Hdr),k≠s∧hs[k]? = some h∧Blk h.v g
abbrev restE (e:TypeId) (hs:List Hdr) (cl:List (List Value)) (s:Nat):Ent:=.ours (restS hs s) fun w=>RestAt w e hs cl s
section
variable {P:Program} {Z:Nat→Prop} {w0 w:World} {L:List Ent} {gc:Nat} {t e:TypeId} {hs:List Hdr} {cl:List (List Value)} {s:Nat} {h:Hdr} {l:List Value}
theorem Hp.rowOut (hh:Hp Z w0 w (rowsE gc t e hs cl::L)) (h1:hs[s]? = some h) (h2:cl[s]? = some l):Hp Z w0 w (.own gc (hs.map Hdr.v).toArray t::.row 1 h.p h.n h.c e l::restE e hs cl s::L):=by
 have ho:On (rowsS gc hs) (fun w=>RowsAt w gc t e hs cl) w:=hh.all _ List.mem_cons_self
 have ha:=ho.holds
 refine Hp.recast (M:=[rowsE gc t e hs cl]) (N:=[.own gc (hs.map Hdr.v).toArray t,.row 1 h.p h.n h.c e l,restE e hs cl s]) hh ?_ ?_ ?_ ?_
 ·intro x hx
  simp only [List.mem_cons,List.not_mem_nil,or_false] at hx
  rcases hx with rfl|rfl|rfl
  ·exact ha.own
  ·exact ha.row s h l h1 h2
  ·refine ⟨⟨fun k x l _ h3 h4=>ha.row k x l h3 h4⟩,fun k hk=>?_,fun v v' hv hk=>⟨fun j x l hj h3 h4=>rowZ_same (hv.row j x l hj h3 h4) fun g hg=>hk g ⟨j,x,hj,h3,hg⟩⟩⟩
   obtain ⟨j,x,_,h3,h4⟩:=hk
   exact ho.lt k (.inr ⟨x,List.mem_of_getElem? h3,h4⟩)
 ·refine List.pairwise_cons.2 ⟨fun x hx k=>?_,List.pairwise_cons.2 ⟨fun x hx k=>?_,List.pairwise_singleton _ _⟩⟩
  ·simp only [List.mem_cons,List.not_mem_nil,or_false] at hx
   have key:k=gc→¬ x.foot k:=by
    rintro rfl hf
    rcases hx with rfl|rfl
    ·exact ha.gc s h h1 hf
    ·obtain ⟨j,y,_,h3,h4⟩:=hf
     exact ha.gc j y h3 h4
   exact ⟨fun h3 h4=>key h3 h4,fun h3 h4=>key h3 (Ent.foot_of_mine h4)⟩
  ·simp only [List.mem_singleton] at hx
   subst hx
   have key:Blk h.v k→¬ restS hs s k:=by
    rintro h3 ⟨j,y,hj,h4,h5⟩
    exact hj (ha.apart j s y h k h4 h1 h5 h3)
   exact ⟨fun h3 h4=>key h3 h4,fun h3 h4=>key h3 h4⟩
 ·intro x hx k hk
  refine ⟨_,List.mem_cons_self,?_⟩
  simp only [List.mem_cons,List.not_mem_nil,or_false] at hx
  rcases hx with rfl|rfl|rfl
  ·exact .inl hk
  ·exact .inr ⟨h,List.mem_of_getElem? h1,hk⟩
  ·obtain ⟨j,y,_,h4,h5⟩:=hk
   exact .inr ⟨y,List.mem_of_getElem? h4,h5⟩
 ·intro x hx k hk
  refine ⟨_,List.mem_cons_self,?_⟩
  simp only [List.mem_cons,List.not_mem_nil,or_false] at hx
  rcases hx with rfl|rfl|rfl
  ·exact .inl hk
  ·exact .inr ⟨h,List.mem_of_getElem? h1,hk⟩
  ·obtain ⟨j,y,_,h4,h5⟩:=hk
   exact .inr ⟨y,List.mem_of_getElem? h4,h5⟩
theorem Hp.rowIn {h':Hdr} {l':List Value} (hh:Hp Z w0 w (.own gc ((hs.map Hdr.v).set s h'.v).toArray t::.row 1 h'.p h'.n h'.c e l'::restE e hs cl s::L)) (h1:s < hs.length) (hl:hs.length=cl.length)
  (hap:∀ (j k:Nat) (h h':Hdr) (g:Nat),hs[j]? = some h→hs[k]? = some h'→Blk h.v g→Blk h'.v g→j=k):Hp Z w0 w (rowsE gc t e (hs.set s h') (cl.set s l')::L):=by
 have ho:=hh.own List.mem_cons_self
 have hr:=hh.row (List.mem_cons_of_mem _ List.mem_cons_self)
 have hq:RestAt w e hs cl s:=(hh.our (S:=restS hs s) (A:=fun w=>RestAt w e hs cl s) (List.mem_cons_of_mem _ (List.mem_cons_of_mem _ List.mem_cons_self))).holds
 have hap2:=hh.apart
 rw [List.pairwise_cons,List.pairwise_cons] at hap2
 obtain ⟨a1,a2,_⟩:=hap2
 have b1:=a1 (.row 1 h'.p h'.n h'.c e l') List.mem_cons_self
 have b2:=a1 (restE e hs cl s) (List.mem_cons_of_mem _ List.mem_cons_self)
 have b3:=a2 (restE e hs cl s) List.mem_cons_self
 refine Hp.recast (M:=[.own gc ((hs.map Hdr.v).set s h'.v).toArray t,.row 1 h'.p h'.n h'.c e l',restE e hs cl s]) (N:=[rowsE gc t e (hs.set s h') (cl.set s l')]) hh ?_ (List.pairwise_singleton _ _) ?_ ?_
 ·intro x hx
  simp only [List.mem_singleton] at hx
  subst hx
  refine rowsE_on ⟨by rw [List.map_set];exact ho,by simp [hl],fun k x l h3 h4=>?_,fun j k x y g h3 h4 h5 h6=>?_,fun k x h3 h4=>?_⟩
  ·by_cases hk:s=k
   ·subst hk
    rw [List.getElem?_set_self h1] at h3
    rw [List.getElem?_set_self (by omega)] at h4
    cases h3;cases h4
    exact hr
   ·rw [List.getElem?_set_ne hk] at h3 h4
    exact hq.row k x l (fun e=>hk e.symm) h3 h4
  ·by_cases hj:s=j <;> by_cases hk:s=k
   ·omega
   ·subst hj
    rw [List.getElem?_set_self h1] at h3
    rw [List.getElem?_set_ne hk] at h4
    cases h3
    exact absurd ⟨k,y,fun e=>hk e.symm,h4,h6⟩ ((b3 g).1 h5)
   ·subst hk
    rw [List.getElem?_set_self h1] at h4
    rw [List.getElem?_set_ne hj] at h3
    cases h4
    exact absurd ⟨j,x,fun e=>hj e.symm,h3,h5⟩ ((b3 g).1 h6)
   ·rw [List.getElem?_set_ne hj] at h3
    rw [List.getElem?_set_ne hk] at h4
    exact hap j k x y g h3 h4 h5 h6
  ·by_cases hk:s=k
   ·subst hk
    rw [List.getElem?_set_self h1] at h3
    cases h3
    exact (b1 gc).1 rfl h4
   ·rw [List.getElem?_set_ne hk] at h3
    exact (b2 gc).1 rfl ⟨k,x,fun e=>hk e.symm,h3,h4⟩
 ·intro x hx k hk
  simp only [List.mem_singleton] at hx
  subst hx
  rcases hk with rfl|⟨y,hy,hb⟩
  ·exact ⟨_,List.mem_cons_self,rfl⟩
  ·obtain ⟨j,hj,hy⟩:=List.getElem_of_mem hy
   have h3:(hs.set s h')[j]? = some y:=by rw [List.getElem?_eq_getElem hj,hy]
   by_cases hk:s=j
   ·subst hk
    rw [List.getElem?_set_self h1] at h3
    cases h3
    exact ⟨_,List.mem_cons_of_mem _ List.mem_cons_self,hb⟩
   ·rw [List.getElem?_set_ne hk] at h3
    exact ⟨restE e hs cl s,List.mem_cons_of_mem _ (List.mem_cons_of_mem _ List.mem_cons_self),⟨j,y,fun e=>hk e.symm,h3,hb⟩⟩
 ·intro x hx k hk
  simp only [List.mem_singleton] at hx
  subst hx
  rcases hk with rfl|⟨y,hy,hb⟩
  ·exact ⟨_,List.mem_cons_self,rfl⟩
  ·obtain ⟨j,hj,hy⟩:=List.getElem_of_mem hy
   have h3:(hs.set s h')[j]? = some y:=by rw [List.getElem?_eq_getElem hj,hy]
   by_cases hk:s=j
   ·subst hk
    rw [List.getElem?_set_self h1] at h3
    cases h3
    exact ⟨_,List.mem_cons_of_mem _ List.mem_cons_self,hb⟩
   ·rw [List.getElem?_set_ne hk] at h3
    exact ⟨restE e hs cl s,List.mem_cons_of_mem _ (List.mem_cons_of_mem _ List.mem_cons_self),⟨j,y,fun e=>hk e.symm,h3,hb⟩⟩
end
end Go.Proofs.YtlfhngoeecjfpaaGreatDoor.Sh
namespace Go.Proofs.YtlfhngoeecjfpaaGreatDoor.B
open Go Go.RowKit Go.Proofs.YtlfhngoeecjfpaaGreatDoor.Sh Go.Proofs.YtlfhngoeecjfpaaGreatDoor.W
abbrev bysF (hl:List (Hd × List UInt8)):Ent:=.ours (fun k=>∃ x∈hl,0 < x.2.length∧∃ a,x.1.p=some a∧k=a.block) fun w=>∀ x∈hl,Sees w 1 x.1.p x.1.n x.1.c (u8s x.2)
theorem bysF_on {w:World} {hl:List (Hd × List UInt8)} (h:∀ x∈hl,Sees w 1 x.1.p x.1.n x.1.c (u8s x.2)):(bysF hl).at_ w :=
 ⟨h,fun k ⟨x,hx,h0,a,ha,hk⟩=>by
  have hs:=h x hx
  obtain ⟨a',ha',hl⟩:=hs.addr (by decide) (by rw [hs.bytes];exact h0)
  rw [ha] at ha';cases ha';subst hk;exact hl,fun v v' hv hk x hx=>sees_same (hv x hx) fun a h0 ha=>by
   rw [u8s_len] at h0;exact hk _ ⟨x,hx,h0,a,ha,rfl⟩⟩
theorem bysNil {Z:Nat→Prop} {w0 w:World} {L:List Ent} (h:Hp Z w0 w L):Hp Z w0 w (bysF []::L) :=
 h.know (x:=bysF []) (bysF_on fun x hx=>by cases hx) (fun k ⟨x,hx,_⟩=>by cases hx) fun y hy k hk ⟨x,hx,_⟩=>by cases hx
theorem Hp.mergeO {Z:Nat→Prop} {w0 w:World} {L M:List Ent} {s x y:Ent} (h:Hp Z w0 w (s::L)) (hp:Pos L x y M) (hy:y.at_ w) (hm:∀ k,y.mine k→x.mine k∨s.mine k) (hf:∀ k,y.foot k→x.foot k∨s.foot k):Hp Z w0 w M:=by
 obtain ⟨R,h1,h2⟩:=hp.perm
 have h3:Hp Z w0 w ([s,x]++R):=h.perm (h1.cons s)
 have h4:Hp Z w0 w ([y]++R):=Hp.recast h3 (fun z hz=>by simp only [List.mem_singleton] at hz;subst hz;exact hy) (List.pairwise_singleton _ _)
  (fun z hz k hk=>by
   simp only [List.mem_singleton] at hz;subst hz
   rcases hm k hk with h|h
   ·exact ⟨x,by simp,h⟩
   ·exact ⟨s,by simp,h⟩)
  (fun z hz k hk=>by
   simp only [List.mem_singleton] at hz;subst hz
   rcases hf k hk with h|h
   ·exact ⟨x,by simp,h⟩
   ·exact ⟨s,by simp,h⟩)
 exact Hp.perm h4 h2.symm
theorem bysAdd {Z:Nat→Prop} {w0 w:World} {L M:List Ent} {q:Option Addr} {n cap e:Nat} {l:List UInt8} {hl:List (Hd × List UInt8)} (h:Hp Z w0 w (.row 1 q n cap e (u8s l)::L)) (hp:Pos L (bysF hl) (bysF (hl++[(⟨q,n,cap⟩,l)])) M):Hp Z w0 w M:=by
 have h1:=(h.our (List.mem_cons_of_mem _ hp.mem)).holds
 have hrow:=h.row List.mem_cons_self
 have h2:=hrow.sees
 have key:∀ k,(bysF (hl++[(⟨q,n,cap⟩,l)])).foot k→(bysF hl).foot k∨(Ent.row 1 q n cap e (u8s l)).foot k:=fun k hk=>by
  obtain ⟨x,hx,h0,a,ha,hk⟩:=hk
  rcases List.mem_append.1 hx with h|h
  ·exact .inl ⟨x,h,h0,a,ha,hk⟩
  ·simp only [List.mem_singleton] at h;subst h
   refine .inr ?_
   rcases hrow.form with ⟨hv,_⟩|⟨g,c',hv,_⟩
   ·simp only [Value.slice.injEq] at hv
    simp only at ha
    rw [hv.1] at ha;cases ha
   ·simp only [Value.slice.injEq] at hv
    simp only at ha
    rw [hv.1] at ha;cases ha
    show Blk (.slice q n cap) k
    unfold Blk
    rw [hv.1]
    simp [Value.ownBlock,hk]
 refine Hp.mergeO h hp (bysF_on fun x hx=>?_) key key
 rcases List.mem_append.1 hx with h|h
 ·exact h1 x h
 ·simp only [List.mem_singleton] at h;subst h;exact h2
def seeS (z:Nat) (h:Hd) (xs:List Value):Nat→Prop:=(Ent.see z h.p h.n h.c xs).foot
def byS (hs:List Hd) (ll:List (List UInt8)) (k:Nat):Prop:=∃ (i:Nat) (x:Hd) (l:List UInt8),hs[i]? = some x∧ll[i]? = some l∧seeS 1 x (u8s l) k
def contS (h:Cd) (C:Cont) (k:Nat):Prop :=
 seeS 3 h.t (zat C.types) k∨seeS 1 h.c (h.cs.map Hd.v) k∨seeS 1 h.s (h.ss.map Hd.v) k∨seeS 1 h.d (u8s C.data) k∨byS h.cs C.codes k∨byS h.ss C.subs k
abbrev contF (h:Cd) (C:Cont):Ent:=.fact (contS h C) fun w=>ContAt w h C
def ContNew (w:World) (h:Cd) (C:Cont):Prop:=∀ k,contS h C k→w.heap.size≤k
def cutT (l:List UInt8):Nat→List Int→List (List UInt8)
 | _,[]=>[]
 | a,s::r=>(l.drop a).take s.toNat::cutT l (a+s.toNat) r
section
variable {Z:Nat→Prop} {w0 w:World} {L R:List Ent} {rb n c t:Nat} {p:Option Addr} {l:List UInt8} {K:Value→World→Prop}
theorem f47 {a q1:Nat} {p1:Option Addr} {c1:Nat} {r:List Int} (hh:Hp Z w0 w (rdE rb p n c a t::.see 1 p n c (u8s l)::.see 1 p1 q1 c1 (ints r)::R)) (hn:n≤1000000000) (hr:∀ x∈r,0≤x) (hrl:r.length≤100000) (hle:(a:Int)+r.sum≤n)
  (kk:∀ hl q cap w',hl.map (·.2)=cutT l a r→Hp Z w0 w' (.row 1 q hl.length cap 22 (hl.map (·.1.v))::bysF hl::rdE rb p n c (a+r.sum.toNat) t::.see 1 p n c (u8s l)::.see 1 p1 q1 c1 (ints r)::R)→K (.slice q hl.length cap) w') :
  zaj Tryz.prog 47 #[.pointer (some ⟨rb,0,none⟩),.slice p1 q1 c1] w K:=by
 refine call47 _ _ _ _ _ _ ?_
 unfold F47
 have hq1:q1=r.length:=by have:=(hh.sees (.there (.there .here)):Sees w 1 p1 q1 c1 (ints r)).len;rw [zbl] at this;omega
 have hln:=(hh.sees (.there .here):Sees w 1 p n c (u8s l)).bytes
 have loop:∀ (m j a':Nat) (hl:List (Hd × List UInt8)) (q:Option Addr) (g cap:Nat) (w:World),j+m=q1→g=hl.length→hl.length=j→a'+((r.drop j).sum.toNat)=a+r.sum.toNat→(a':Int)+(r.drop j).sum≤n→hl.map (·.2)++cutT l a' (r.drop j)=cutT l a r →
   Hp Z w0 w (.row 1 q g cap 22 (hl.map (·.1.v))::bysF hl::rdE rb p n c a' t::.see 1 p n c (u8s l)::.see 1 p1 q1 c1 (ints r)::R)→L47_0 K (m+1) (some ⟨rb,0,none⟩) q g cap p1 q1 c1 (q1:Int) (j:Int) w:=by
  clear hh
  intro m
  induction m with
  | zero =>
   intro j a' hl q g cap w hj hg hlj ha hle2 hcut hh
   unfold L47_0
   refine ifD (fun h=>by omega) fun _=>?_
   have hd:r.drop j=[]:=List.drop_of_length_le (by omega)
   rw [hd] at ha hcut
   simp only [cutT,List.append_nil,List.sum_nil,Int.toNat_zero,Nat.add_zero] at ha hcut
   subst hg
   rw [ha] at hh
   exact kk hl q cap w hcut hh
  | succ m ih =>
   intro j a' hl q g cap w hj hg hlj ha hle2 hcut hh
   unfold L47_0
   refine ifD (fun _=>?_) fun h=>by omega
   have hjr:j < r.length:=by omega
   have hd:r.drop j=r[j]::r.drop (j+1):=List.drop_eq_getElem_cons hjr
   have hx0:0≤r[j]:=hr _ (List.getElem_mem hjr)
   have hs0:0≤(r.drop (j+1)).sum:=by
    have key:∀ l:List Int,(∀ x∈l,0≤x)→0≤l.sum:=by
     intro l
     induction l with
     | nil=>intro _;simp
     | cons x l ih=>intro h;have:=ih (fun y hy=>h y (List.mem_cons_of_mem _ hy));have:=h x List.mem_cons_self;simp only [List.sum_cons];omega
    exact key _ fun x hx=>hr x (List.mem_of_mem_drop hx)
   rw [hd] at ha hcut hle2
   simp only [cutT,List.sum_cons] at ha hcut hle2
   refine rdI (hh.sees (.there (.there (.there (.there .here))))) (by with_unfolding_all rfl) (by with_unfolding_all rfl) (by omega) (by omega) fun x hx=>?_
   simp only [Int.toNat_natCast,List.getElem?_eq_getElem hjr,Option.some.injEq] at hx
   rw [← hx]
   obtain ⟨s,hs⟩:=Int.eq_ofNat_of_zero_le hx0
   rw [hs] at ha hcut hle2 ⊢
   simp only [Int.toNat_natCast] at hcut
   with_reducible repeat' first|refine kk_ ?_|refine nx hh ?_|refine allW fun w' hh=>?_|exact sd_|refine ai ?_ ?_|exact vr|fail
   first|rw [i64w (n:=(a':Int)+(s:Int)) (by omega) (by omega)]|(dsimp only;rw [i64w (n:=(a':Int)+(s:Int)) (by omega) (by omega)])
   refine sliceZ3 (z:=1) (by with_unfolding_all rfl) (by with_unfolding_all rfl) (by omega) (by omega) ?_ ?_
   ·have:=(hh.sees (.there (.there (.there .here))):Sees _ 1 p n c (u8s l)).le;omega
   have hmid:=Sees.mid (x:=a') (y:=a'+s) (hh.sees (.there (.there (.there .here))):Sees _ 1 p n c (u8s l)) (by omega) (by omega)
   have e1:((a':Int)+(s:Int)).toNat=a'+s:=by omega
   first|rw [e1,Int.toNat_natCast]|(dsimp only;rw [e1,Int.toNat_natCast])
   have e2:a'+s - a'=s:=by omega
   rw [e2] at hmid ⊢
   rw [Nat.mul_one,Nat.mul_one,u8s_drop,u8s_take] at hmid
   rw [Nat.mul_one]
   refine kL ?_
   refine f28 hh hmid (by omega) fun q2 cap2 w4 hh=>?_
   refine kL ?_
   replace hh:=bysAdd hh (by repeat (first|exact Pos.here|apply Pos.there))
   repeat' first|(with_reducible first|refine kk_ ?_|refine nx hh ?_|refine allW fun w' hh=>?_|exact sd_)|((with_reducible refine appH hh (by with_unfolding_all rfl) (by with_unfolding_all rfl) (by with_unfolding_all rfl) (by with_unfolding_all rfl) (by with_unfolding_all rfl) (by with_unfolding_all rfl) (by with_unfolding_all rfl) (by omega) (by with_unfolding_all rfl) fun g2 cap9 w4 hh=>?_);(replace hh:=hh.tail))|(with_reducible first|refine And.intro ?_ ?_|exact vr)|fail
   rw [i64w (n:=(a':Int)+(s:Int)) (by omega) (by omega),i64w (n:=(j:Int)+1) (by omega) (by omega)] at *
   have e3:hl.map (·.1.v)++#[Value.slice q2 s cap2].toList=(hl++[((⟨q2,s,cap2⟩:Hd),(l.drop a').take s)]).map (·.1.v):=by simp
   rw [e3] at hh
   have:=ih (j+1) (a'+s) (hl++[((⟨q2,s,cap2⟩:Hd),(l.drop a').take s)]) (some ⟨g2,0,none⟩) (g+1) cap9 _ (by omega) (by simp;omega) (by simp;omega) (by omega) (by omega) (by rw [← hcut];simp) (by exact_mod_cast hh)
   exact_mod_cast this
 refine ⟨q1+1,?_⟩
 exact_mod_cast loop q1 0 a [] none 0 0 w (by omega) rfl rfl rfl hle rfl ((bysNil hh).rowNil 1 22)
end
end Go.Proofs.YtlfhngoeecjfpaaGreatDoor.B
