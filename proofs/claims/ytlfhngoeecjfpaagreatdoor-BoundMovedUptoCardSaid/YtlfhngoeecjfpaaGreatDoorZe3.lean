/- Lemmas of the claim, part 3. No condition. -/
import Derived.Test.YtlfhngoeecjfpaaGreatDoorZe2
set_option linter.unusedVariables false
set_option linter.unusedSimpArgs false
set_option maxRecDepth 100000
set_option maxHeartbeats 4000000
namespace Go.Proofs.YtlfhngoeecjfpaaGreatDoor.B
open Go Go.RowKit Go.Proofs.YtlfhngoeecjfpaaGreatDoor.Sh Go.Proofs.YtlfhngoeecjfpaaGreatDoor.W
theorem callXFn {f:FuncId} {args:Array Value} {w:World} {F:Value→World→Prop} {X:List PanicEntry→World→Prop} (he:∀ args w,(callFunc f args).run Tryz.prog w = .ok (.enter f args) w) (h:zaj Tryz.prog f args w F):callX Tryz.prog (.func (.func f) #[] #[]) args w F X:=by
 unfold callX
 show (invoke (.fn (.func f) #[]) (#[]++args)).wp Tryz.prog (nxX Tryz.prog F X) (fun _ _=>False) w
 rw [Sem.wp_iff_run]
 have:(invoke (.fn (.func f) #[]) (#[]++args)).run Tryz.prog w = .ok (.enter f args) w:=by simp [invoke,go_sem,he]
 rw [this]
 exact zbt.of_V h
section
variable {Z:Nat→Prop} {w0 w:World} {L R:List Ent} {rb n c t:Nat} {p:Option Addr} {l:List UInt8} {K:Value→World→Prop} {X:List PanicEntry→World→Prop}
theorem g129 {a:Bool} {v:Int} {F:Value→World→Prop} (k:F (.bool (fitIn a v)) w):zaj Tryz.prog 129 #[.bool a,.int .i64 v] w F:=by
 refine call129 _ _ _ _ ?_
 unfold F129
 refine ifD (fun h1=>ifD (fun h2=>?_) fun h2=>?_) fun h1=>?_
 ·cases a with
  | false=>refine zco ?_;simpa [fitIn,h1,h2] using k
  | true=>refine zcj ?_;simpa [fitIn,h1,h2] using k
 ·simpa [fitIn,h1,h2] using k
 ·simpa [fitIn,h1] using k
theorem g131 {a:Bool} {v:Int} {F:Value→World→Prop} (k:F (.bool (zdr a v)) w):zaj Tryz.prog 131 #[.bool a,.int .i64 v] w F:=by
 refine call131 _ _ _ _ ?_
 unfold F131
 refine ifD (fun h1=>ifD (fun h2=>?_) fun h2=>?_) fun h1=>?_
 ·cases a with
  | false=>refine zco ?_;simpa [zdr,h1,h2] using k
  | true=>refine zcj ?_;simpa [zdr,h1,h2] using k
 ·simpa [zdr,h1,h2] using k
 ·simpa [zdr,h1] using k
theorem g133 {a:Bool} {v:Int} {F:Value→World→Prop} (k:F (.bool (zdp v)) w):zaj Tryz.prog 133 #[.bool a,.int .i64 v] w F:=by
 refine call133 _ _ _ _ ?_
 unfold F133
 refine ifD (fun h1=>?_) fun h1=>?_
 ·simpa [zdp,h1] using k
 ·simpa [zdp,h1] using k
theorem cx129 {a:Bool} {v:Int} {F:Value→World→Prop} (k:F (.bool (fitIn a v)) w):callX Tryz.prog (.func (.func 129) #[] #[]) #[.bool a,.int .i64 v] w F X :=
 callXFn (enters_of Tryz.func129 (by kernel_rfl) rfl) (g129 k)
theorem cx131 {a:Bool} {v:Int} {F:Value→World→Prop} (k:F (.bool (zdr a v)) w):callX Tryz.prog (.func (.func 131) #[] #[]) #[.bool a,.int .i64 v] w F X :=
 callXFn (enters_of Tryz.func131 (by kernel_rfl) rfl) (g131 k)
theorem cx133 {a:Bool} {v:Int} {F:Value→World→Prop} (k:F (.bool (zdp v)) w):callX Tryz.prog (.func (.func 133) #[] #[]) #[.bool a,.int .i64 v] w F X :=
 callXFn (enters_of Tryz.func133 (by kernel_rfl) rfl) (g133 k)
def zdh (l:List UInt8):Nat→Nat→Bool→Except (Int × Int) (List Ty)
 | 0,_,_=>.ok []
 | k+1,a,first=>match zbq l a 1 with
  | .error x=>.error x
  | .ok i=>if fitIn first i=true then (match zbq l (a+1) 1 with
   | .error x=>.error x
   | .ok o=>if zdr first o=true then (match zbq l (a+1+1) 2 with
    | .error x=>.error x
    | .ok m=>if zdp m=true then (match zdh l k (a+1+1+2) false with
     | .error x=>.error x
     | .ok r=>.ok (⟨i,o,m⟩::r)) else .error (59,((a+1+1:Nat):Int))) else .error (59,((a+1:Nat):Int))) else .error (59,(a:Int))
theorem f46 {a k cb:Nat} {v1 v2 v3 v4:Value} (hh:Hp Z w0 w (rdE rb p n c a t::.see 1 p n c (u8s l)::.own cb #[.slice none 0 0,v1,v2,v3,v4] 27::R)) (hn:n≤1000000000) (ha:a≤n) (hk:k≤100000)
  (kx:∀ x,zdh l k a true = .error x→∀ a' q m cap w',Hp Z w0 w' (rdE rb p n c a' t::.see 1 p n c (u8s l)::.own cb #[.slice q m cap,v1,v2,v3,v4] 27::R)→X (wrongE x.1 x.2) w')
  (kk:∀ ts,zdh l k a true = .ok ts→a+4 * k≤n→∀ q m cap w',m=ts.length→Hp Z w0 w' (.row 3 q m cap 52 (zat ts)::rdE rb p n c (a+4 * k) t::.see 1 p n c (u8s l)::.own cb #[.slice q m cap,v1,v2,v3,v4] 27::R)→K (.tuple #[]) w') :
  zbt Tryz.prog 46 #[.pointer (some ⟨rb,0,none⟩),.pointer (some ⟨cb,0,none⟩),.int .i64 (k:Int)] w K X:=by
 refine call46 _ _ _ _ _ _ ?_
 unfold F46
 refine f84 fun w1 hb1=>?_
 replace hh:=hh.bl hb1
 with_reducible repeat' first|refine kk_ ?_|refine nx hh ?_|refine allW fun w' hh=>?_|exact sd_|refine ai ?_ ?_|exact vr|fail
 replace hh:=hh.front (x:=.own w1.heap.size #[.int .i64 1,.func (.func 129) #[] #[],.func (.func 130) #[] #[],.int .i64 1,.func (.func 131) #[] #[],.func (.func 132) #[] #[],.int .i64 2,.func (.func 133) #[] #[],.func (.func 134) #[] #[]] 184) (by repeat (first|exact Pick.here|apply Pick.there))
 generalize w1.heap.size=x6 at hh ⊢
 refine ⟨k+1,?_⟩
 have e1:IntKind.wrap .i64 (0+1)=1:=rfl
 have e2:IntKind.wrap .i64 (1+1)=2:=rfl
 have e3:IntKind.wrap .i64 (2+1)=3:=rfl
 have loop:∀ (m j:Nat) (acc:List Ty) (q:Option Addr) (g cap:Nat) (w:World),j+m=k→g=acc.length→acc.length=j→a+4 * j≤n →
   (zdh l k a true=match zdh l m (a+4 * j) (decide (j=0)) with|.error x=>.error x|.ok r=>.ok (acc++r)) →
   Hp Z w0 w (.row 3 q g cap 52 (zat acc)::.own x6 #[.int .i64 1,.func (.func 129) #[] #[],.func (.func 130) #[] #[],.int .i64 1,.func (.func 131) #[] #[],.func (.func 132) #[] #[],.int .i64 2,.func (.func 133) #[] #[],.func (.func 134) #[] #[]] 184::rdE rb p n c (a+4 * j) t::.see 1 p n c (u8s l)::.own cb #[.slice q g cap,v1,v2,v3,v4] 27::R) →
   L46_0 K X (m+1) (some ⟨rb,0,none⟩) (some ⟨cb,0,none⟩) ⟨x6,0,none⟩ (k:Int) (j:Int) w:=by
  clear hh
  intro m
  induction m with
  | zero =>
   intro j acc q g cap w hj hg hal hle hq hh
   unfold L46_0
   refine ifD (fun h=>by omega) fun _=>?_
   have hjk:j=k:=by omega
   subst hjk
   simp only [zdh,List.append_nil] at hq
   exact kk acc hq hle q g cap w hg (hh.sublist (.cons_cons _ (.cons _ (.refl _))))
  | succ m ih =>
   intro j acc q g cap w hj hg hal hle hq hh
   unfold L46_0
   refine ifD (fun _=>?_) fun h=>by omega
   have hfirst:((j:Int) == 0)=decide (j=0):=by
    by_cases h:j=0
    ·subst h;rfl
    ·rw [decide_eq_false h];simpa using h
   rw [zdh] at hq
   with_reducible repeat' first|refine kk_ ?_|refine nx hh ?_|refine allW fun w' hh=>?_|exact sd_|refine ai ?_ ?_|exact vr|fail
   refine ⟨4,?_⟩
   unfold L46_3
   refine ifD (fun _=>?_) fun h=>by omega
   repeat' first|(with_reducible first|refine kk_ ?_|refine nx hh ?_|refine allW fun w' hh=>?_|exact sd_|refine ixBnd0 ?_|refine ixBnd1 ?_|refine ixBnd2 ?_|refine And.intro ?_ ?_|exact vr)|fail
   refine f43 (s:=1) (a:=a+4 * j) hh rfl (by decide) hn hle (fun x hx=>kx x (by rw [hq,hx]) _ _ _ _ _ (hh.sublist (by repeat (first|exact List.Sublist.refl _|apply List.Sublist.cons)))) fun i hi hle1 w5 hh=>?_
   rw [hi] at hq
   simp only at hq
   repeat' first|(with_reducible first|refine kk_ ?_|refine nx hh ?_|refine allW fun w' hh=>?_|exact sd_|refine cx129 ?_|refine cx131 ?_|refine cx133 ?_|refine And.intro ?_ ?_|exact vr)|fail
   refine f44 (fun hb=>?_) (fun hb=>?_)
   rotate_left
   ·rw [hfirst] at hb
    rw [if_neg (by rw [hb];decide)] at hq
    exact kx (59,((a+4 * j:Nat):Int)) hq _ _ _ _ _ (hh.sublist (by repeat (first|exact List.Sublist.refl _|apply List.Sublist.cons)))
   rw [hfirst] at hb
   rw [if_pos hb] at hq
   repeat' first|(with_reducible first|refine kk_ ?_|refine nx hh ?_|refine allW fun w' hh=>?_|exact sd_|refine cv130 ?_|refine cv132 ?_|refine cv134 ?_|refine And.intro ?_ ?_|exact vr)|fail
   first|rw [e1]|(dsimp only;rw [e1])
   unfold L46_3
   refine ifD (fun _=>?_) fun h=>by omega
   repeat' first|(with_reducible first|refine kk_ ?_|refine nx hh ?_|refine allW fun w' hh=>?_|exact sd_|refine ixBnd0 ?_|refine ixBnd1 ?_|refine ixBnd2 ?_|refine And.intro ?_ ?_|exact vr)|fail
   refine f43 (s:=1) (a:=a+4 * j+1) hh rfl (by decide) hn hle1 (fun x hx=>kx x (by rw [hq,hx]) _ _ _ _ _ (hh.sublist (by repeat (first|exact List.Sublist.refl _|apply List.Sublist.cons)))) fun o ho hle2 w6 hh=>?_
   rw [ho] at hq
   simp only at hq
   rename_i hb1'
   clear hb1'
   repeat' first|(with_reducible first|refine kk_ ?_|refine nx hh ?_|refine allW fun w' hh=>?_|exact sd_|refine cx129 ?_|refine cx131 ?_|refine cx133 ?_|refine And.intro ?_ ?_|exact vr)|fail
   refine f44 (fun hb=>?_) (fun hb=>?_)
   rotate_left
   ·rw [hfirst] at hb
    rw [if_neg (by rw [hb];decide)] at hq
    exact kx (59,((a+4 * j+1:Nat):Int)) hq _ _ _ _ _ (hh.sublist (by repeat (first|exact List.Sublist.refl _|apply List.Sublist.cons)))
   rw [hfirst] at hb
   rw [if_pos hb] at hq
   repeat' first|(with_reducible first|refine kk_ ?_|refine nx hh ?_|refine allW fun w' hh=>?_|exact sd_|refine cv130 ?_|refine cv132 ?_|refine cv134 ?_|refine And.intro ?_ ?_|exact vr)|fail
   first|rw [e2]|(dsimp only;rw [e2])
   unfold L46_3
   refine ifD (fun _=>?_) fun h=>by omega
   repeat' first|(with_reducible first|refine kk_ ?_|refine nx hh ?_|refine allW fun w' hh=>?_|exact sd_|refine ixBnd0 ?_|refine ixBnd1 ?_|refine ixBnd2 ?_|refine And.intro ?_ ?_|exact vr)|fail
   refine f43 (s:=2) (a:=a+4 * j+1+1) hh rfl (by decide) hn hle2 (fun x hx=>kx x (by rw [hq,hx]) _ _ _ _ _ (hh.sublist (by repeat (first|exact List.Sublist.refl _|apply List.Sublist.cons)))) fun mo hmo hle3 w7 hh=>?_
   rw [hmo] at hq
   simp only at hq
   repeat' first|(with_reducible first|refine kk_ ?_|refine nx hh ?_|refine allW fun w' hh=>?_|exact sd_|refine cx129 ?_|refine cx131 ?_|refine cx133 ?_|refine And.intro ?_ ?_|exact vr)|fail
   refine f44 (fun hb=>?_) (fun hb=>?_)
   rotate_left
   ·rw [if_neg (by rw [hb];decide)] at hq
    exact kx (59,((a+4 * j+1+1:Nat):Int)) hq _ _ _ _ _ (hh.sublist (by repeat (first|exact List.Sublist.refl _|apply List.Sublist.cons)))
   rw [if_pos hb] at hq
   repeat' first|(with_reducible first|refine kk_ ?_|refine nx hh ?_|refine allW fun w' hh=>?_|exact sd_|refine cv130 ?_|refine cv132 ?_|refine cv134 ?_|refine And.intro ?_ ?_|exact vr)|fail
   first|rw [e3]|(dsimp only;rw [e3])
   unfold L46_3
   refine ifD (fun h=>by omega) fun _=>?_
   unfold J46_2
   repeat' first|(with_reducible first|refine kk_ ?_|refine nx hh ?_|refine allW fun w' hh=>?_|exact sd_)|((with_reducible refine appH hh (by with_unfolding_all rfl) (by with_unfolding_all rfl) (by with_unfolding_all rfl) (by with_unfolding_all rfl) (by with_unfolding_all rfl) (by with_unfolding_all rfl) (by with_unfolding_all rfl) (by omega) (by with_unfolding_all rfl) fun g2 cap9 w4 hh=>?_);(replace hh:=hh.tail))|(with_reducible first|refine And.intro ?_ ?_|exact vr)|fail
   unfold J46_1
   first|rw [i64w (n:=(j:Int)+1) (by omega) (by omega)]|(dsimp only;rw [i64w (n:=(j:Int)+1) (by omega) (by omega)])
   have e4:zat acc++#[Value.int .i64 i,.int .i64 o,.int .i64 mo].toList=zat (acc++[⟨i,o,mo⟩]):=by rw [tyCells_app]
   have e5:a+4 * j+1+1+2=a+4 * (j+1):=by omega
   rw [e4,e5] at hh
   exact_mod_cast ih (j+1) (acc++[⟨i,o,mo⟩]) (some ⟨g2,0,none⟩) (g+1) cap9 _ (by omega) (by simp;omega) (by simp;omega) (by omega) (by
    first|rw [hq,e5,decide_eq_false (by omega:¬ j+1=0)]|(dsimp only;rw [hq,e5,decide_eq_false (by omega:¬ j+1=0)])
    cases zdh l m (a+4 * (j+1)) false with
    | error x=>rfl
    | ok r=>simp) (hh.sublist (by repeat (first|exact List.Sublist.refl _|apply List.Sublist.cons)))
 exact_mod_cast loop k 0 [] none 0 0 _ (by omega) rfl rfl (by omega) (by
  rw [Nat.mul_zero,Nat.add_zero]
  show zdh l k a true=match zdh l k a true with|.error x=>.error x|.ok r=>.ok ([]++r)
  cases zdh l k a true <;> rfl) (hh.rowNil 3 52)
end
def bindE {α β:Type} (x:Except (Int × Int) α) (f:α→Except (Int × Int) β):Except (Int × Int) β:=match x with|.error e=>.error e|.ok a=>f a
theorem zaq {α β:Type} {a:α} {f:α→Except (Int × Int) β}:bindE (.ok a) f=f a:=rfl
def askT (b:Bool) (e a:Int):Except (Int × Int) Unit:=if b=true then .ok () else .error (e,a)
theorem askT_t {e a:Int}:askT true e a = .ok ():=rfl
def bodyT (l:List UInt8) (op:Bool) (h2:Nat) (four n:Int) (codes subs:List Int):Except (Int × Int) Cont :=
 bindE (zbq l h2 2) fun size =>
 bindE (wantT l (h2+2) 0 53) fun _ =>
 bindE (askT (!(decide ((l.length:Int) < (h2:Int)+2+1+four+codes.sum+subs.sum) || (!op && decide ((l.length:Int) < (h2:Int)+2+1+four+codes.sum+subs.sum+size)))) 50 l.length) fun _ =>
 bindE (askT (decide ((l.length:Int)≤(h2:Int)+2+1+four+codes.sum+subs.sum+size)) 58 ((h2:Int)+2+1+four+codes.sum+subs.sum+size)) fun _ =>
 bindE (zdh l n.toNat (h2+2+1) true) fun ts =>
 .ok ⟨ts,cutT l (h2+2+1+4 * n.toNat) codes,cutT l (h2+2+1+4 * n.toNat+codes.sum.toNat) subs,l.drop (h2+2+1+4 * n.toNat+codes.sum.toNat+subs.sum.toNat),size⟩
def kindT (l:List UInt8) (op:Bool) (h:Nat) (four n:Int) (codes:List Int) (kind:Int):Except (Int × Int) Cont :=
 if kind=3 then
  bindE (zbq l h 2) fun m =>
  bindE (askT (decide (m > 0) && decide (m≤256)) 57 h) fun _ =>
  bindE (zcr l 4 m.toNat (h+2)) fun subs =>
  bindE (wantT l (h+2+m.toNat * 4) 255 53) fun _ =>
  bodyT l op (h+2+m.toNat * 4+1) four n codes subs
 else bodyT l op h four n codes []
def codesT (l:List UInt8) (op:Bool) (four:Int):Except (Int × Int) Cont :=
 bindE (wantT l 6 2 53) fun _ =>
 bindE (zbq l 7 2) fun n =>
 bindE (askT (4 * n == four) 55 7) fun _ =>
 bindE (zcr l 2 n.toNat 9) fun codes =>
 bindE (zbq l (9+n.toNat * 2) 1) fun kind =>
 bindE (askT (decide (kind=3) || decide (kind=255)) 53 ((9+n.toNat * 2:Nat):Int)) fun _ =>
 kindT l op (9+n.toNat * 2+1) four n codes kind
def zay (l:List UInt8) (op:Bool):Except (Int × Int) Cont :=
 bindE (wantT l 0 239 51) fun _ =>
 bindE (wantT l 1 0 51) fun _ =>
 bindE (wantT l 2 1 52) fun _ =>
 bindE (wantT l 3 1 53) fun _ =>
 bindE (zbq l 4 2) fun four =>
 bindE (askT (decide (four > 0) && (decide (four % 4=0) && decide (four≤4096))) 54 4) fun _ =>
 codesT l op four
def rejV (e a:Int):Value:=.tuple #[.agg #[.slice none 0 0,.slice none 0 0,.slice none 0 0,.slice none 0 0,.int .i64 0],.agg #[.int .i64 e,.slice none 0 0,.int .i64 0,.int .i64 a]]
theorem neqIface {a b:Int} {x y:Operand} {w:World} {F:Value→World→Prop} (k:F (.bool true) w):semK Tryz.prog (do eqGuard .neq 20 x y (.iface 112 (.agg #[.int .i64 a,.int .i64 b])) .nilIface;binOp .neq 20 (.iface 112 (.agg #[.int .i64 a,.int .i64 b])) .nilIface) w F:=by
 refine zcd (v:=.bool true) (w':=w) ?_ k
 kernel_rfl
theorem assert112 {a b:Int} {w:World} {F:Value→World→Prop} (k:F (.agg #[.int .i64 a,.int .i64 b]) w):semK Tryz.prog (Instr.typeAssert (.iface 112 (.agg #[.int .i64 a,.int .i64 b])) 20 112 false) w F :=
 zcd (by kernel_rfl) k
theorem neqNil {w:World} {F:Value→World→Prop} (k:F (.bool false) w):semK Tryz.prog (do eqGuard .neq 20 (.tmp 5) (.const .nilIface) .nilIface .nilIface;binOp .neq 20 .nilIface .nilIface) w F:=by
 refine zcd (v:=.bool false) (w':=w) ?_ k
 kernel_rfl
theorem leaveP {P:Program} {F:FrameMode→World→Prop} {g:FuncId} {cap args:Array Value} {ds:List Deferred} {ch:List PanicEntry} {w:World} (hb:zec P g=true) (h:DefV P g (args++cap) (.panicking ch) w fun u' w'=>zbd P F ds (settle u') w') :
  zbd P F ({ target:=.fn (.func g) cap,args:=args }::ds) (.panicking ch) w:=by
 unfold zbd
 simp only [hb,cond_true]
 exact h
theorem leaveR {P:Program} {F:FrameMode→World→Prop} {g:FuncId} {cap args:Array Value} {ds:List Deferred} {w:World} (hb:zec P g=true) (h:DefV P g (args++cap) .returning w fun u' w'=>zbd P F ds (settle u') w') :
  zbd P F ({ target:=.fn (.func g) cap,args:=args }::ds) .returning w:=by
 unfold zbd
 simp only [hb,cond_true]
 exact h
theorem leave0 {P:Program} {R:World→Prop} {X:List PanicEntry→World→Prop} {w:World} (h:R w):zbd P (finA R X) [] .returning w:=by
 unfold zbd finA
 exact h
theorem settled {v:Value}:settle (.panicking [{ v:=v,recovered:=true }]) = .returning:=rfl
theorem settledR:settle .returning = .returning:=rfl
theorem has41:zec Tryz.prog 41=true:=by kernel_rfl
theorem pan24 {Z:Nat→Prop} {w0 w:World} {R:List Ent} {x4 x5:Nat} {s1 s2 s3 s4:Value} {z1:Value} {e a:Int} {s0 z0 z2 z3:Value} {G:World→Prop} {X:List PanicEntry→World→Prop} (hh:Hp Z w0 w (.own x4 #[s0,s1,s2,s3,s4] 27::.own x5 #[z0,z1,z2,z3] 31::R))
  (k:∀ w',Hp Z w0 w' (.own x4 #[.slice none 0 0,.slice none 0 0,.slice none 0 0,.slice none 0 0,.int .i64 0] 27::.own x5 #[.int .i64 e,.slice none 0 0,.int .i64 0,.int .i64 a] 31::R)→G w') :
  zbd Tryz.prog (finA G X) [{ target:=.fn (.func 41) #[.pointer (some ⟨x4,0,none⟩),.pointer (some ⟨x5,0,none⟩)],args:=#[] }] (.panicking (wrongE e a)) w:=by
 refine leaveP has41 ?_
 rw [Array.empty_append]
 refine deferD41p ⟨x4,0,none⟩ ⟨x5,0,none⟩ e a [] w _ ?_
 unfold D41p
 refine neqIface (kB (ifBt (assert112 ?_)))
 with_reducible repeat' first|refine kk_ ?_|refine nx hh ?_|refine allW fun w' hh=>?_|exact sd_|refine ai ?_ ?_|exact vr|fail
 first|rw [settled]|(dsimp only;rw [settled])
 exact leave0 (k _ hh.tail)
theorem leave24 {w:World} {x4 x5:Nat} {G:World→Prop} {X:List PanicEntry→World→Prop} (k:G w) :
  zbd Tryz.prog (finA G X) [{ target:=.fn (.func 41) #[.pointer (some ⟨x4,0,none⟩),.pointer (some ⟨x5,0,none⟩)],args:=#[] }] .returning w:=by
 refine leaveR has41 ?_
 first|rw [Array.empty_append]|(dsimp only;rw [Array.empty_append])
 refine deferD41r ⟨x4,0,none⟩ ⟨x5,0,none⟩ w _ ?_
 unfold D41r
 refine neqNil (kB (ifBf ?_))
 rw [settledR]
 exact leave0 k
theorem rowSee {Z:Nat→Prop} {w0 w:World} {L:List Ent} {z n c:Nat} {p:Option Addr} {e:TypeId} {xs:List Value} (h:Hp Z w0 w (.row z p n c e xs::L)):Hp Z w0 w (.see z p n c xs::L):=by
 have hr:=h.row List.mem_cons_self
 refine h.less .here hr.sees (fun k hk=>hk.elim) fun k hk=>?_
 obtain ⟨h0,a,ha,rfl⟩:=hk
 show Blk (.slice p n c) a.block
 rcases hr.form with ⟨hv,_⟩|⟨g,c',hv,_⟩
 ·simp only [Value.slice.injEq] at hv
  rw [hv.1] at ha;cases ha
 ·simp only [Value.slice.injEq] at hv
  rw [hv.1] at ha;cases ha
  unfold Blk
  rw [hv.1]
  simp [Value.ownBlock]
theorem rowFoot {w:World} {z n c:Nat} {p:Option Addr} {e:TypeId} {xs:List Value} (hr:RowZ w z (.slice p n c) e n xs) {k:Nat} (hk:(Ent.see z p n c xs).foot k):Blk (.slice p n c) k:=by
 obtain ⟨h0,a,ha,rfl⟩:=hk
 rcases hr.form with ⟨hv,_⟩|⟨g,c',hv,_⟩
 ·simp only [Value.slice.injEq] at hv
  rw [hv.1] at ha;cases ha
 ·simp only [Value.slice.injEq] at hv
  rw [hv.1] at ha;cases ha
  unfold Blk
  rw [hv.1]
  simp [Value.ownBlock]
theorem byL_of {w:World} {q:Option Addr} {m cap:Nat} {hl:List (Hd × List UInt8)} (h1:Sees w 1 q m cap (hl.map (·.1.v))) (h2:∀ x∈hl,Sees w 1 x.1.p x.1.n x.1.c (u8s x.2)):ByL w ⟨q,m,cap⟩ (hl.map (·.1)) (hl.map (·.2)):=by
 refine ⟨by rw [List.map_map];exact h1,by simp,fun k x l hx hl'=>?_⟩
 rw [List.getElem?_map] at hx hl'
 obtain ⟨y,hy,rfl⟩:=Option.map_eq_some_iff.1 hx
 obtain ⟨y',hy',rfl⟩:=Option.map_eq_some_iff.1 hl'
 rw [hy] at hy';cases hy'
 exact h2 y (List.mem_of_getElem? hy)
abbrev P24 (x4 x5 x6:Nat) (p:Option Addr) (n c:Nat) (l:List UInt8) (a:Nat) (sz:Int):List Ent :=
 [rdE x6 p n c a 115,.see 1 p n c (u8s l),.own x4 #[.slice none 0 0,.slice none 0 0,.slice none 0 0,.slice none 0 0,.int .i64 sz] 27,.own x5 #[.int .i64 0,.slice none 0 0,.int .i64 0,.int .i64 0] 31]
def okV (hd:Cd) (C:Cont):Value:=.tuple #[contV hd C,.agg #[.int .i64 0,.slice none 0 0,.int .i64 0,.int .i64 0]]
abbrev D24 (x4 x5:Nat):List Deferred:=[{ target:=.fn (.func 41) #[.pointer (some ⟨x4,0,none⟩),.pointer (some ⟨x5,0,none⟩)],args:=#[] }]
section
variable {w0 w:World} {x4 x5 x6 n c:Nat} {p:Option Addr} {l:List UInt8} {op:Bool} {K:Value→World→Prop} {X:List PanicEntry→World→Prop}
theorem sum_nonneg {l:List Int} (h:∀ x∈l,0≤x):0≤l.sum:=by
 induction l with
 | nil=>simp
 | cons x l ih=>have:=ih (fun y hy=>h y (List.mem_cons_of_mem _ hy));have:=h x List.mem_cons_self;simp only [List.sum_cons];omega
def rowRS (h:Cd) (C:Cont) (k:Nat):Prop:=seeS 3 h.t (zat C.types) k∨seeS 1 h.s (h.ss.map Hd.v) k∨seeS 1 h.d (u8s C.data) k∨byS h.cs C.codes k∨byS h.ss C.subs k
def CodesRow (w0 w:World) (h:Cd) (C:Cont):Prop:=RowZ w 1 h.c.v 22 h.c.n (h.cs.map Hd.v)∧∀ k,Blk h.c.v k→w0.heap.size≤k∧¬ rowRS h C k
theorem j24_3 {a:Nat} {sz nn head:Int} {codes subs:List Int} {q1 q2:Option Addr} {m1 m2 c1 c2:Nat} (hh:Hp zan w0 w (.see 1 q1 m1 c1 (ints codes)::.see 1 q2 m2 c2 (ints subs)::P24 x4 x5 x6 p n c l a sz))
  (hn:n≤1000000000) (ha:a≤n) (hnn0:0≤nn) (hnn:nn≤100000) (hc0:∀ x∈codes,0≤x) (hs0:∀ x∈subs,0≤x) (hc1:codes.length≤100000) (hs1:subs.length≤100000) (hsz:0≤sz∧sz < 65536)
  (hhead:head=(a:Int)+4 * nn+codes.sum+subs.sum) (hle:head≤n)
  (ke:∀ e a,zay l op = .error (e,a)→∀ w',Bl w0 w'→K (rejV e a) w') (ko:∀ C,zay l op = .ok C→∀ hd w',Bl w0 w'→ContAt w' hd C→ContNew w0 hd C→CodesRow w0 w' hd C→K (okV hd C) w')
  (hP:zay l op=bindE (askT (decide ((l.length:Int)≤head+sz)) 58 (head+sz)) fun _=>bindE (zdh l nn.toNat a true) fun ts =>
   .ok ⟨ts,cutT l (a+4 * nn.toNat) codes,cutT l (a+4 * nn.toNat+codes.sum.toNat) subs,l.drop (a+4 * nn.toNat+codes.sum.toNat+subs.sum.toNat),sz⟩) :
  J24_3 K X p n c ⟨x4,0,none⟩ ⟨x5,0,none⟩ ⟨x6,0,none⟩ nn q1 m1 c1 q2 m2 c2 head (D24 x4 x5) w:=by
 have hcs:=sum_nonneg hc0
 have hss:=sum_nonneg hs0
 have hb:=(hh.sees (SeeIn.pos (p:=p) (n:=n) (c:=c))).bytes
 obtain ⟨k,rfl⟩:=Int.eq_ofNat_of_zero_le hnn0
 unfold J24_3
 with_reducible repeat' first|refine kk_ ?_|refine nx hh ?_|refine allW fun w' hh=>?_|exact sd_|refine ai ?_ ?_|exact vr|fail
 first|rw [i64w (n:=head+sz) (by omega) (by omega)]|(dsimp only;rw [i64w (n:=head+sz) (by omega) (by omega)])
 refine f44 (fun hbb=>?_) (fun hbb=>?_)
 rotate_left
 ·have he:zay l op = .error (58,head+sz):=by
   rw [hP,← hb,hbb];rfl
  refine pan24 ((hh.front (x:=.own x5 #[_,_,_,_] 31) (by repeat (first|exact Pick.here|apply Pick.there))).front (x:=.own x4 #[_,_,_,_,_] 27) (by repeat (first|exact Pick.here|apply Pick.there))) fun w' hh=>?_
  with_reducible repeat' first|refine kk_ ?_|refine nx hh ?_|refine allW fun w' hh=>?_|exact sd_|refine ai ?_ ?_|exact vr|fail
  exact ke _ _ he _ hh.done
 rw [← hb,hbb,askT_t,zaq] at hP
 with_reducible repeat' first|refine kk_ ?_|refine nx hh ?_|refine allW fun w' hh=>?_|exact sd_|refine ai ?_ ?_|exact vr|fail
 replace hh:=((hh.front (x:=.own x4 #[_,_,_,_,_] 27) (by repeat (first|exact Pick.here|apply Pick.there))).front (x:=.see 1 p n c (u8s l)) (by repeat (first|exact Pick.here|apply Pick.there))).front (x:=rdE x6 p n c a 115) (by repeat (first|exact Pick.here|apply Pick.there))
 rw [Int.toNat_natCast] at hP
 refine f46 hh hn ha (by omega) (fun x hx a' q m cap w' hh=>?_) (fun ts hts hle2 q m cap w' hm hh=>?_)
 ·have he:zay l op = .error x:=by rw [hP,hx];rfl
  refine pan24 ((hh.front (x:=.own x5 #[_,_,_,_] 31) (by repeat (first|exact Pick.here|apply Pick.there))).front (x:=.own x4 #[_,_,_,_,_] 27) (by repeat (first|exact Pick.here|apply Pick.there))) fun w' hh=>?_
  with_reducible repeat' first|refine kk_ ?_|refine nx hh ?_|refine allW fun w' hh=>?_|exact sd_|refine ai ?_ ?_|exact vr|fail
  exact ke _ _ he _ hh.done
 rw [hts,zaq] at hP
 with_reducible repeat' first|refine kk_ ?_|refine nx hh ?_|refine allW fun w' hh=>?_|exact sd_|refine ai ?_ ?_|exact vr|fail
 replace hh:=((hh.front (x:=.see 1 q1 m1 c1 (ints codes)) (by repeat (first|exact Pick.here|apply Pick.there))).front (x:=.see 1 p n c (u8s l)) (by repeat (first|exact Pick.here|apply Pick.there))).front (x:=rdE x6 p n c (a+4 * k) 115) (by repeat (first|exact Pick.here|apply Pick.there))
 refine f47 hh hn hc0 hc1 (by omega) fun hl1 r1 cp1 w3 hcut1 hh=>?_
 with_reducible repeat' first|refine kk_ ?_|refine nx hh ?_|refine allW fun w' hh=>?_|exact sd_|refine ai ?_ ?_|exact vr|fail
 replace hh:=((hh.front (x:=.see 1 q2 m2 c2 (ints subs)) (by repeat (first|exact Pick.here|apply Pick.there))).front (x:=.see 1 p n c (u8s l)) (by repeat (first|exact Pick.here|apply Pick.there))).front (x:=rdE x6 p n c (a+4 * k+codes.sum.toNat) 115) (by repeat (first|exact Pick.here|apply Pick.there))
 refine f47 hh hn hs0 hs1 (by omega) fun hl2 r2 cp2 w4 hcut2 hh=>?_
 with_reducible repeat' first|refine kk_ ?_|refine nx hh ?_|refine allW fun w' hh=>?_|exact sd_|refine ai ?_ ?_|exact vr|fail
 have hsee:Sees _ 1 p n c (u8s l):=hh.sees (SeeIn.pos (p:=p) (n:=n) (c:=c))
 refine dropZ (z:=1) (by with_unfolding_all rfl) (by with_unfolding_all rfl) (by omega) (by omega) hsee.le ?_
 have hd:=hsee.drop (x:=a+4 * k+codes.sum.toNat+subs.sum.toNat) (by omega)
 rw [Nat.mul_one,u8s_drop] at hd
 first|rw [Int.toNat_natCast,Nat.mul_one]|(dsimp only;rw [Int.toNat_natCast,Nat.mul_one])
 refine kL ?_
 refine f28 hh hd (by omega) fun r3 cp3 w5 hh=>?_
 with_reducible repeat' first|refine kk_ ?_|refine nx hh ?_|refine allW fun w' hh=>?_|exact sd_|refine ai ?_ ?_|exact vr|fail
 refine leave24 ?_
 with_reducible repeat' first|refine kk_ ?_|refine nx hh ?_|refine allW fun w' hh=>?_|exact sd_|refine ai ?_ ?_|exact vr|fail
 have ht:=(hh.row (z:=3) (p:=q) (n:=m) (c:=cap) (e:=52) (xs:=zat ts) (by simp)).sees
 have hco:=(hh.row (z:=1) (p:=r1) (n:=hl1.length) (c:=cp1) (e:=22) (xs:=hl1.map (·.1.v)) (by simp)).sees
 have hso:=(hh.row (z:=1) (p:=r2) (n:=hl2.length) (c:=cp2) (e:=22) (xs:=hl2.map (·.1.v)) (by simp)).sees
 have hda:=(hh.row (z:=1) (p:=r3) (n:=n - (a+4 * k+codes.sum.toNat+subs.sum.toNat)) (c:=cp3) (e:=5) (xs:=u8s (l.drop (a+4 * k+codes.sum.toNat+subs.sum.toNat))) (by simp)).sees
 have hb1:(bysF hl1).at_ _:=hh.all (bysF hl1) (by simp)
 have hb2:(bysF hl2).at_ _:=hh.all (bysF hl2) (by simp)
 refine ko _ hP ⟨⟨q,m,cap⟩,⟨r1,hl1.length,cp1⟩,⟨r2,hl2.length,cp2⟩,⟨r3,n - (a+4 * k+codes.sum.toNat+subs.sum.toNat),cp3⟩,hl1.map (·.1),hl2.map (·.1)⟩ _ hh.done ⟨ht,?_,?_,hda⟩ ?_ ?_
 ·rw [← hcut1]
  exact byL_of hco hb1.holds
 ·rw [← hcut2]
  exact byL_of hso hb2.holds
 ·have may:=hh.may
  have hby:∀ (hl:List (Hd × List UInt8)) (ll:List (List UInt8)),hl.map (·.2)=ll→bysF hl∈_→∀ k,byS (hl.map (·.1)) ll k→w0.heap.size≤k:=fun hl ll hll hm k hk=>by
   obtain ⟨i,x,l',h1,h2,h0,a,ha,hk⟩:=hk
   refine Or.resolve_left (may _ hm k ?_) (fun h=>h)
   rw [← hll] at h2
   rw [List.getElem?_map] at h1 h2
   obtain ⟨y,hy,rfl⟩:=Option.map_eq_some_iff.1 h1
   rw [hy] at h2
   simp only [Option.map_some,Option.some.injEq] at h2
   subst h2
   rw [u8s_len] at h0
   exact ⟨y,List.mem_of_getElem? hy,h0,a,ha,hk⟩
  have hrw:∀ {z n c e:Nat} {p:Option Addr} {xs:List Value},Ent.row z p n c e xs∈_→∀ k,seeS z ⟨p,n,c⟩ xs k→w0.heap.size≤k:=fun {z n c e p xs} hm k hk=>Or.resolve_left (may _ hm k (rowFoot (hh.row hm) hk)) (fun h=>h)
  rintro g (h|h|h|h|h|h)
  ·exact hrw (z:=3) (p:=q) (n:=m) (c:=cap) (e:=52) (xs:=zat ts) (by simp) g h
  ·rw [List.map_map] at h
   exact hrw (z:=1) (p:=r1) (n:=hl1.length) (c:=cp1) (e:=22) (xs:=hl1.map (·.1.v)) (by simp) g h
  ·rw [List.map_map] at h
   exact hrw (z:=1) (p:=r2) (n:=hl2.length) (c:=cp2) (e:=22) (xs:=hl2.map (·.1.v)) (by simp) g h
  ·exact hrw (z:=1) (p:=r3) (n:=n - (a+4 * k+codes.sum.toNat+subs.sum.toNat)) (c:=cp3) (e:=5) (xs:=u8s (l.drop (a+4 * k+codes.sum.toNat+subs.sum.toNat))) (by simp) g h
  ·exact hby hl1 _ hcut1 (by simp) g h
  ·exact hby hl2 _ hcut2 (by simp) g h
 ·refine ⟨?_,fun g hk=>⟨Or.resolve_left (hh.may (.row 1 r1 hl1.length cp1 22 (hl1.map (·.1.v))) (by simp) g hk) (fun h=>h),?_⟩⟩
  ·show RowZ _ 1 (.slice r1 hl1.length cp1) 22 hl1.length ((hl1.map (·.1)).map Hd.v)
   rw [List.map_map]
   exact hh.row (z:=1) (p:=r1) (n:=hl1.length) (c:=cp1) (e:=22) (xs:=hl1.map (·.1.v)) (by simp)
  ·have hap:=(List.pairwise_cons.1 (hh.front (x:=.row 1 r1 hl1.length cp1 22 (hl1.map (·.1.v))) (by repeat (first|exact Pick.here|apply Pick.there))).apart).1
   have hrow:∀ {z n c e:Nat} {p:Option Addr} {xs:List Value},Ent.row z p n c e xs∈_→Ent.row z p n c e xs∈_→¬ seeS z ⟨p,n,c⟩ xs g:=fun {z n c e p xs} hm hm' hs=>(hap _ hm' g).1 hk (rowFoot (hh.row hm) hs)
   have hby:∀ (hl:List (Hd × List UInt8)) (ll:List (List UInt8)),hl.map (·.2)=ll→bysF hl∈_→¬ byS (hl.map (·.1)) ll g:=fun hl ll hll hm hk'=>by
    obtain ⟨i,x,l',h1,h2,h0,a,ha,hk'⟩:=hk'
    refine (hap _ hm g).1 hk ?_
    rw [← hll] at h2
    rw [List.getElem?_map] at h1 h2
    obtain ⟨y,hy,rfl⟩:=Option.map_eq_some_iff.1 h1
    rw [hy] at h2
    simp only [Option.map_some,Option.some.injEq] at h2
    subst h2
    rw [u8s_len] at h0
    exact ⟨y,List.mem_of_getElem? hy,h0,a,ha,hk'⟩
   rintro (h|h|h|h|h)
   ·exact hrow (z:=3) (p:=q) (n:=m) (c:=cap) (e:=52) (xs:=zat ts) (by simp) (by simp) h
   ·rw [List.map_map] at h
    exact hrow (z:=1) (p:=r2) (n:=hl2.length) (c:=cp2) (e:=22) (xs:=hl2.map (·.1.v)) (by simp) (by simp) h
   ·exact hrow (z:=1) (p:=r3) (n:=n - (a+4 * k+codes.sum.toNat+subs.sum.toNat)) (c:=cp3) (e:=5) (xs:=u8s (l.drop (a+4 * k+codes.sum.toNat+subs.sum.toNat))) (by simp) (by simp) h
   ·exact hby hl1 _ hcut1 (by simp) h
   ·exact hby hl2 _ hcut2 (by simp) h
end
theorem fieldT_lt {l:List UInt8} {a s:Nat} {v:Int} (hs:s≤4) (h:zbq l a s = .ok v):0≤v∧v < 256 ^ s∧a+s≤l.length:=by
 unfold zbq at h
 split at h
 ·cases h
 ·cases h
  have h1:=beT_lt ((l.drop a).take s)
  have hlen:((l.drop a).take s).length=s:=by rw [List.length_take,List.length_drop];omega
  rw [hlen] at h1
  exact ⟨h1.1,h1.2,by omega⟩
section
variable {w0 w:World} {x4 x5 x6 n c:Nat} {p:Option Addr} {l:List UInt8} {op:Bool} {K:Value→World→Prop} {X:List PanicEntry→World→Prop}
theorem j24_2 {a:Nat} {nn four:Int} {codes subs:List Int} {q1 q2:Option Addr} {m1 m2 c1 c2:Nat} (hh:Hp zan w0 w (.see 1 q1 m1 c1 (ints codes)::.see 1 q2 m2 c2 (ints subs)::P24 x4 x5 x6 p n c l a 0))
  (hn:n≤1000000000) (ha:a≤n) (hnn0:0≤nn) (hnn:nn≤100000) (hf:four=4 * nn) (hc0:∀ x∈codes,0≤x) (hs0:∀ x∈subs,0≤x) (hc1:codes.length≤100000) (hs1:subs.length≤100000) (hcs:codes.sum≤1000000000000000) (hss:subs.sum≤1000000000000000)
  (ke:∀ e a,zay l op = .error (e,a)→∀ w',Bl w0 w'→K (rejV e a) w') (ko:∀ C,zay l op = .ok C→∀ hd w',Bl w0 w'→ContAt w' hd C→ContNew w0 hd C→CodesRow w0 w' hd C→K (okV hd C) w')
  (hP:zay l op=bodyT l op a four nn codes subs) :
  J24_2 K X p n c op ⟨x4,0,none⟩ ⟨x5,0,none⟩ ⟨x6,0,none⟩ four nn q1 m1 c1 codes.sum q2 m2 c2 subs.sum (D24 x4 x5) w:=by
 have hcs0:=sum_nonneg hc0
 have hss0:=sum_nonneg hs0
 have hb:=(hh.sees (SeeIn.pos (p:=p) (n:=n) (c:=c))).bytes
 unfold J24_2
 unfold bodyT at hP
 refine f43 (s:=2) (a:=a) hh rfl (by decide) hn ha (fun x hx=>?_) fun sz hsz hle w1 hh=>?_
 ·have he:zay l op = .error x:=by rw [hP,hx];rfl
  refine pan24 ((hh.front (x:=.own x5 #[_,_,_,_] 31) (by repeat (first|exact Pick.here|apply Pick.there))).front (x:=.own x4 #[_,_,_,_,_] 27) (by repeat (first|exact Pick.here|apply Pick.there))) fun w' hh=>?_
  with_reducible repeat' first|refine kk_ ?_|refine nx hh ?_|refine allW fun w' hh=>?_|exact sd_|refine ai ?_ ?_|exact vr|fail
  exact ke _ _ he _ hh.done
 rw [hsz,zaq] at hP
 have hszl:=fieldT_lt (by decide) hsz
 with_reducible repeat' first|refine kk_ ?_|refine nx hh ?_|refine allW fun w' hh=>?_|exact sd_|refine ai ?_ ?_|exact vr|fail
 refine f42 (a:=a+2) (p:=p) (n:=n) (c:=c) (l:=l) hh rfl hn hle (fun x hx a' w' hh=>?_) (fun hx hle2 w2 hh=>?_)
 ·have he:zay l op = .error x:=by rw [hP,hx];rfl
  refine pan24 ((hh.front (x:=.own x5 #[_,_,_,_] 31) (by repeat (first|exact Pick.here|apply Pick.there))).front (x:=.own x4 #[_,_,_,_,_] 27) (by repeat (first|exact Pick.here|apply Pick.there))) fun w' hh=>?_
  with_reducible repeat' first|refine kk_ ?_|refine nx hh ?_|refine allW fun w' hh=>?_|exact sd_|refine ai ?_ ?_|exact vr|fail
  exact ke _ _ he _ hh.done
 rw [hx,zaq] at hP
 with_reducible repeat' first|refine kk_ ?_|refine nx hh ?_|refine allW fun w' hh=>?_|exact sd_|refine ai ?_ ?_|exact vr|fail
 have e1:IntKind.wrap .i64 (IntKind.wrap .i64 (IntKind.wrap .i64 (((a+2+1:Nat):Int)+four)+codes.sum)+subs.sum)=(a:Int)+2+1+four+codes.sum+subs.sum:=by
  first|rw [i64w (n:=((a+2+1:Nat):Int)+four) (by omega) (by omega),i64w (n:=((a+2+1:Nat):Int)+four+codes.sum) (by omega) (by omega),i64w (by omega) (by omega)]|(dsimp only;rw [i64w (n:=((a+2+1:Nat):Int)+four) (by omega) (by omega),i64w (n:=((a+2+1:Nat):Int)+four+codes.sum) (by omega) (by omega),i64w (by omega) (by omega)])
  omega
 first|rw [e1]|(dsimp only;rw [e1])
 generalize hhead:(a:Int)+2+1+four+codes.sum+subs.sum=head at hP ⊢
 have hpan:(decide ((l.length:Int) < head) || (!op && decide ((l.length:Int) < head+sz)))=true→zay l op = .error (50,n):=fun h=>by
  rw [hP,h,hb];rfl
 have hpan4:∀ {w'},Hp zan w0 w' (.see 1 q1 m1 c1 (ints codes)::.see 1 q2 m2 c2 (ints subs)::P24 x4 x5 x6 p n c l (a+2+1) sz)→((decide ((l.length:Int) < head) || (!op && decide ((l.length:Int) < head+sz)))=true)→J24_4 K X p n c ⟨x4,0,none⟩ ⟨x5,0,none⟩ ⟨x6,0,none⟩ nn q1 m1 c1 q2 m2 c2 head true (D24 x4 x5) w':=fun hh h=>by
  have he:=hpan h
  unfold J24_4
  refine ifBt ?_
  refine pan24 ((hh.front (x:=.own x5 #[_,_,_,_] 31) (by repeat (first|exact Pick.here|apply Pick.there))).front (x:=.own x4 #[_,_,_,_,_] 27) (by repeat (first|exact Pick.here|apply Pick.there))) fun w' hh=>?_
  with_reducible repeat' first|refine kk_ ?_|refine nx hh ?_|refine allW fun w' hh=>?_|exact sd_|refine ai ?_ ?_|exact vr|fail
  exact ke _ _ he _ hh.done
 have hgo:∀ {w'},Hp zan w0 w' (.see 1 q1 m1 c1 (ints codes)::.see 1 q2 m2 c2 (ints subs)::P24 x4 x5 x6 p n c l (a+2+1) sz)→head≤n→((decide ((l.length:Int) < head) || (!op && decide ((l.length:Int) < head+sz)))=false)→J24_4 K X p n c ⟨x4,0,none⟩ ⟨x5,0,none⟩ ⟨x6,0,none⟩ nn q1 m1 c1 q2 m2 c2 head false (D24 x4 x5) w':=fun hh hle h=>by
  unfold J24_4
  refine ifBf ?_
  rw [h,Bool.not_false,askT_t,zaq] at hP
  refine j24_3 hh hn hle2 hnn0 hnn hc0 hs0 hc1 hs1 ⟨hszl.1,by have:=hszl.2.1;omega⟩ (by omega) hle ke ko ?_
  first|rw [hP]|(dsimp only;rw [hP])
 refine ifD (fun h1=>?_) fun h1=>?_
 ·exact hpan4 hh (by rw [decide_eq_true (by omega)];rfl)
 ·cases op with
  | true =>
   refine zcj ?_
   exact hgo hh (by omega) (by rw [decide_eq_false (by omega)];rfl)
  | false =>
   refine zco ?_
   with_reducible repeat' first|refine kk_ ?_|refine nx hh ?_|refine allW fun w' hh=>?_|exact sd_|refine ai ?_ ?_|exact vr|fail
   first|rw [i64w (by omega) (by omega)]|(dsimp only;rw [i64w (by omega) (by omega)])
   by_cases h2:(n:Int) < head+sz
   ·first|rw [decide_eq_true h2]|(dsimp only;rw [decide_eq_true h2])
    exact hpan4 hh (by rw [decide_eq_true (p:=(l.length:Int) < head+sz) (by omega)];simp)
   ·first|rw [decide_eq_false h2]|(dsimp only;rw [decide_eq_false h2])
    exact hgo hh (by omega) (by rw [decide_eq_false (by omega),decide_eq_false (p:=(l.length:Int) < head+sz) (by omega)];rfl)
theorem zdx {s:Nat} (hs:s≤4):∀ (k a:Nat) (r:List Int),zcr l s k a = .ok r→(∀ x∈r,0≤x)∧r.length=k∧r.sum≤4294967296 * k
 | 0,a,r,h=>by simp only [zcr,Except.ok.injEq] at h;subst h;simp
 | k+1,a,r,h=>by
  rw [zcr] at h
  cases hv:zbq l a s with
  | error x=>rw [hv] at h;cases h
  | ok v =>
   rw [hv] at h
   simp only at h
   split at h
   ·cases hr:zcr l s k (a+s) with
    | error x=>rw [hr] at h;cases h
    | ok r' =>
     rw [hr] at h
     cases h
     obtain ⟨h1,h2,h3⟩:=zdx hs k (a+s) r' hr
     have hv1:=fieldT_lt hs hv
     have hp:(256:Int) ^ s≤256 ^ 4:=by
      have:=Nat.pow_le_pow_right (n:=256) (by decide) hs
      exact_mod_cast this
     have hp4:(256:Int) ^ 4=4294967296:=rfl
     refine ⟨fun x hx=>?_,by simp [h2],by simp only [List.sum_cons];omega⟩
     rcases List.mem_cons.1 hx with h|h
     ·subst h;exact hv1.1
     ·exact h1 x h
   ·cases h
theorem j24_1 {a:Nat} {nn four kind:Int} {codes:List Int} {q1:Option Addr} {m1 c1:Nat} (hh:Hp zan w0 w (.see 1 q1 m1 c1 (ints codes)::P24 x4 x5 x6 p n c l a 0))
  (hn:n≤1000000000) (ha:a≤n) (hnn0:0≤nn) (hnn:nn≤100000) (hf:four=4 * nn) (hc0:∀ x∈codes,0≤x) (hc1:codes.length≤100000) (hcs:codes.sum≤1000000000000000)
  (ke:∀ e a,zay l op = .error (e,a)→∀ w',Bl w0 w'→K (rejV e a) w') (ko:∀ C,zay l op = .ok C→∀ hd w',Bl w0 w'→ContAt w' hd C→ContNew w0 hd C→CodesRow w0 w' hd C→K (okV hd C) w')
  (hP:zay l op=kindT l op a four nn codes kind) :
  J24_1 K X p n c op ⟨x4,0,none⟩ ⟨x5,0,none⟩ ⟨x6,0,none⟩ four nn q1 m1 c1 codes.sum none 0 0 0 kind (D24 x4 x5) w:=by
 have hb:=(hh.sees (SeeIn.pos (p:=p) (n:=n) (c:=c))).bytes
 unfold J24_1
 unfold kindT at hP
 refine ifE (fun h3=>?_) (fun h3=>?_)
 rotate_left
 ·rw [if_neg h3] at hP
  exact j24_2 (subs:=[]) (((rowSee (hh.rowNil 1 3)).swap).sublist (.refl _)) hn ha hnn0 hnn hf hc0 (by simp) hc1 (by simp) hcs (by simp) ke ko hP
 rw [if_pos h3] at hP
 refine f43 (s:=2) (a:=a) hh rfl (by decide) hn ha (fun x hx=>?_) fun m hm hle w1 hh=>?_
 ·have he:zay l op = .error x:=by rw [hP,hx];rfl
  refine pan24 ((hh.front (x:=.own x5 #[_,_,_,_] 31) (by repeat (first|exact Pick.here|apply Pick.there))).front (x:=.own x4 #[_,_,_,_,_] 27) (by repeat (first|exact Pick.here|apply Pick.there))) fun w' hh=>?_
  with_reducible repeat' first|refine kk_ ?_|refine nx hh ?_|refine allW fun w' hh=>?_|exact sd_|refine ai ?_ ?_|exact vr|fail
  exact ke _ _ he _ hh.done
 rw [hm,zaq] at hP
 have hml:=fieldT_lt (by decide) hm
 with_reducible repeat' first|refine kk_ ?_|refine nx hh ?_|refine allW fun w' hh=>?_|exact sd_|refine ai ?_ ?_|exact vr|fail
 refine ifD (fun h4=>?_) fun h4=>?_
 rotate_left
 ·refine f44 (fun hb=>by cases hb) fun _=>?_
  have he:zay l op = .error (57,(a:Int)):=by rw [hP,decide_eq_false h4];rfl
  refine pan24 ((hh.front (x:=.own x5 #[_,_,_,_] 31) (by repeat (first|exact Pick.here|apply Pick.there))).front (x:=.own x4 #[_,_,_,_,_] 27) (by repeat (first|exact Pick.here|apply Pick.there))) fun w' hh=>?_
  with_reducible repeat' first|refine kk_ ?_|refine nx hh ?_|refine allW fun w' hh=>?_|exact sd_|refine ai ?_ ?_|exact vr|fail
  exact ke _ _ he _ hh.done
 rw [decide_eq_true h4,Bool.true_and] at hP
 refine f44 (fun hbb=>?_) (fun hbb=>?_)
 rotate_left
 ·have he:zay l op = .error (57,(a:Int)):=by rw [hP,hbb];rfl
  refine pan24 ((hh.front (x:=.own x5 #[_,_,_,_] 31) (by repeat (first|exact Pick.here|apply Pick.there))).front (x:=.own x4 #[_,_,_,_,_] 27) (by repeat (first|exact Pick.here|apply Pick.there))) fun w' hh=>?_
  with_reducible repeat' first|refine kk_ ?_|refine nx hh ?_|refine allW fun w' hh=>?_|exact sd_|refine ai ?_ ?_|exact vr|fail
  exact ke _ _ he _ hh.done
 rw [hbb,askT_t,zaq] at hP
 with_reducible repeat' first|refine kk_ ?_|refine nx hh ?_|refine allW fun w' hh=>?_|exact sd_|refine ai ?_ ?_|exact vr|fail
 have hm256:m≤256:=by simpa using hbb
 obtain ⟨k,rfl⟩:=Int.eq_ofNat_of_zero_le hml.1
 rw [Int.toNat_natCast] at hP
 refine f45 (k:=k) (s:=4) (a:=a+2) (p:=p) (n:=n) (c:=c) (l:=l) hh rfl (by decide) (by decide) (by omega) hn (by omega) (fun x hx a' w' hh=>?_) (fun subs hsubs hle2 q2 m2 cap2 w2 hm2 hh=>?_)
 ·have he:zay l op = .error x:=by rw [hP,hx];rfl
  refine pan24 ((hh.front (x:=.own x5 #[_,_,_,_] 31) (by repeat (first|exact Pick.here|apply Pick.there))).front (x:=.own x4 #[_,_,_,_,_] 27) (by repeat (first|exact Pick.here|apply Pick.there))) fun w' hh=>?_
  with_reducible repeat' first|refine kk_ ?_|refine nx hh ?_|refine allW fun w' hh=>?_|exact sd_|refine ai ?_ ?_|exact vr|fail
  exact ke _ _ he _ hh.done
 rw [hsubs,zaq] at hP
 obtain ⟨hs0,hsl,hss⟩:=zdx (by decide) _ _ _ hsubs
 with_reducible repeat' first|refine kk_ ?_|refine nx hh ?_|refine allW fun w' hh=>?_|exact sd_|refine ai ?_ ?_|exact vr|fail
 refine f42 (a:=a+2+k * 4) (p:=p) (n:=n) (c:=c) (l:=l) hh rfl hn hle2 (fun x hx a' w' hh=>?_) (fun hx hle3 w3 hh=>?_)
 ·have he:zay l op = .error x:=by rw [hP,hx];rfl
  refine pan24 ((hh.front (x:=.own x5 #[_,_,_,_] 31) (by repeat (first|exact Pick.here|apply Pick.there))).front (x:=.own x4 #[_,_,_,_,_] 27) (by repeat (first|exact Pick.here|apply Pick.there))) fun w' hh=>?_
  with_reducible repeat' first|refine kk_ ?_|refine nx hh ?_|refine allW fun w' hh=>?_|exact sd_|refine ai ?_ ?_|exact vr|fail
  exact ke _ _ he _ hh.done
 rw [hx,zaq] at hP
 with_reducible repeat' first|refine kk_ ?_|refine nx hh ?_|refine allW fun w' hh=>?_|exact sd_|refine ai ?_ ?_|exact vr|fail
 have hh2:=rowSee hh
 exact j24_2 (hh2.swap) hn hle3 hnn0 hnn hf hc0 hs0 hc1 (by omega) hcs (by omega) ke ko hP
theorem j24_0 {four:Int} (hh:Hp zan w0 w (P24 x4 x5 x6 p n c l 6 0))
  (hn:n≤1000000000) (ha:6≤n) (hf0:0≤four) (hf:four≤4096)
  (ke:∀ e a,zay l op = .error (e,a)→∀ w',Bl w0 w'→K (rejV e a) w') (ko:∀ C,zay l op = .ok C→∀ hd w',Bl w0 w'→ContAt w' hd C→ContNew w0 hd C→CodesRow w0 w' hd C→K (okV hd C) w')
  (hP:zay l op=codesT l op four) :
  J24_0 K X p n c op ⟨x4,0,none⟩ ⟨x5,0,none⟩ ⟨x6,0,none⟩ four (D24 x4 x5) w:=by
 have hb:=(hh.sees (SeeIn.pos (p:=p) (n:=n) (c:=c))).bytes
 unfold J24_0
 unfold codesT at hP
 refine f42 (a:=6) (p:=p) (n:=n) (c:=c) (l:=l) hh rfl hn ha (fun x hx a' w' hh=>?_) (fun hx hle w1 hh=>?_)
 ·have he:zay l op = .error x:=by rw [hP,hx];rfl
  refine pan24 ((hh.front (x:=.own x5 #[_,_,_,_] 31) (by repeat (first|exact Pick.here|apply Pick.there))).front (x:=.own x4 #[_,_,_,_,_] 27) (by repeat (first|exact Pick.here|apply Pick.there))) fun w' hh=>?_
  with_reducible repeat' first|refine kk_ ?_|refine nx hh ?_|refine allW fun w' hh=>?_|exact sd_|refine ai ?_ ?_|exact vr|fail
  exact ke _ _ he _ hh.done
 rw [hx,zaq] at hP
 with_reducible repeat' first|refine kk_ ?_|refine nx hh ?_|refine allW fun w' hh=>?_|exact sd_|refine ai ?_ ?_|exact vr|fail
 refine f43 (s:=2) (a:=7) (p:=p) (n:=n) (c:=c) (l:=l) hh rfl (by decide) hn hle (fun x hx=>?_) fun nn hnn hle2 w2 hh=>?_
 ·have he:zay l op = .error x:=by rw [hP,hx];rfl
  refine pan24 ((hh.front (x:=.own x5 #[_,_,_,_] 31) (by repeat (first|exact Pick.here|apply Pick.there))).front (x:=.own x4 #[_,_,_,_,_] 27) (by repeat (first|exact Pick.here|apply Pick.there))) fun w' hh=>?_
  with_reducible repeat' first|refine kk_ ?_|refine nx hh ?_|refine allW fun w' hh=>?_|exact sd_|refine ai ?_ ?_|exact vr|fail
  exact ke _ _ he _ hh.done
 rw [hnn,zaq] at hP
 have hnl:=fieldT_lt (by decide) hnn
 obtain ⟨k,rfl⟩:=Int.eq_ofNat_of_zero_le hnl.1
 with_reducible repeat' first|refine kk_ ?_|refine nx hh ?_|refine allW fun w' hh=>?_|exact sd_|refine ai ?_ ?_|exact vr|fail
 first|rw [i64w (n:=4 * (k:Int)) (by omega) (by omega)]|(dsimp only;rw [i64w (n:=4 * (k:Int)) (by omega) (by omega)])
 refine f44 (fun hbb=>?_) (fun hbb=>?_)
 rotate_left
 ·have he:zay l op = .error (55,7):=by rw [hP,hbb];rfl
  refine pan24 ((hh.front (x:=.own x5 #[_,_,_,_] 31) (by repeat (first|exact Pick.here|apply Pick.there))).front (x:=.own x4 #[_,_,_,_,_] 27) (by repeat (first|exact Pick.here|apply Pick.there))) fun w' hh=>?_
  with_reducible repeat' first|refine kk_ ?_|refine nx hh ?_|refine allW fun w' hh=>?_|exact sd_|refine ai ?_ ?_|exact vr|fail
  exact ke _ _ he _ hh.done
 rw [hbb,askT_t,zaq,Int.toNat_natCast] at hP
 have h4:4 * (k:Int)=four:=by simpa using hbb
 with_reducible repeat' first|refine kk_ ?_|refine nx hh ?_|refine allW fun w' hh=>?_|exact sd_|refine ai ?_ ?_|exact vr|fail
 refine f45 (k:=k) (s:=2) (a:=9) (p:=p) (n:=n) (c:=c) (l:=l) hh rfl (by decide) (by decide) (by omega) hn hle2 (fun x hx a' w' hh=>?_) (fun codes hcodes hle3 q1 m1 cap1 w3 hm1 hh=>?_)
 ·have he:zay l op = .error x:=by rw [hP,hx];rfl
  refine pan24 ((hh.front (x:=.own x5 #[_,_,_,_] 31) (by repeat (first|exact Pick.here|apply Pick.there))).front (x:=.own x4 #[_,_,_,_,_] 27) (by repeat (first|exact Pick.here|apply Pick.there))) fun w' hh=>?_
  with_reducible repeat' first|refine kk_ ?_|refine nx hh ?_|refine allW fun w' hh=>?_|exact sd_|refine ai ?_ ?_|exact vr|fail
  exact ke _ _ he _ hh.done
 rw [hcodes,zaq] at hP
 obtain ⟨hc0,hcl,hcs⟩:=zdx (by decide) _ _ _ hcodes
 with_reducible repeat' first|refine kk_ ?_|refine nx hh ?_|refine allW fun w' hh=>?_|exact sd_|refine ai ?_ ?_|exact vr|fail
 have hh2:=rowSee hh
 clear hh
 have hh:=hh2
 refine f43 (s:=1) (a:=9+k * 2) (p:=p) (n:=n) (c:=c) (l:=l) hh rfl (by decide) hn hle3 (fun x hx=>?_) fun kind hkind hle4 w4 hh=>?_
 ·have he:zay l op = .error x:=by rw [hP,hx];rfl
  refine pan24 ((hh.front (x:=.own x5 #[_,_,_,_] 31) (by repeat (first|exact Pick.here|apply Pick.there))).front (x:=.own x4 #[_,_,_,_,_] 27) (by repeat (first|exact Pick.here|apply Pick.there))) fun w' hh=>?_
  with_reducible repeat' first|refine kk_ ?_|refine nx hh ?_|refine allW fun w' hh=>?_|exact sd_|refine ai ?_ ?_|exact vr|fail
  exact ke _ _ he _ hh.done
 rw [hkind,zaq] at hP
 with_reducible repeat' first|refine kk_ ?_|refine nx hh ?_|refine allW fun w' hh=>?_|exact sd_|refine ai ?_ ?_|exact vr|fail
 refine ifE (fun h3=>?_) (fun h3=>?_)
 ·refine f44 (fun _=>?_) (fun hb=>by cases hb)
  rw [decide_eq_true h3,Bool.true_or,askT_t,zaq] at hP
  with_reducible repeat' first|refine kk_ ?_|refine nx hh ?_|refine allW fun w' hh=>?_|exact sd_|refine ai ?_ ?_|exact vr|fail
  exact j24_1 hh hn hle4 hnl.1 (by omega) h4.symm hc0 (by omega) (by omega) ke ko hP
 ·rw [decide_eq_false h3,Bool.false_or] at hP
  refine f44 (fun hbb=>?_) (fun hbb=>?_)
  ·have h255:kind=255:=by simpa using hbb
   rw [decide_eq_true h255,askT_t,zaq] at hP
   with_reducible repeat' first|refine kk_ ?_|refine nx hh ?_|refine allW fun w' hh=>?_|exact sd_|refine ai ?_ ?_|exact vr|fail
   exact j24_1 hh hn hle4 hnl.1 (by omega) h4.symm hc0 (by omega) (by omega) ke ko hP
  ·have h255:¬ kind=255:=by simpa using hbb
   have he:zay l op = .error (53,((9+k * 2:Nat):Int)):=by rw [hP,decide_eq_false h255];rfl
   refine pan24 ((hh.front (x:=.own x5 #[_,_,_,_] 31) (by repeat (first|exact Pick.here|apply Pick.there))).front (x:=.own x4 #[_,_,_,_,_] 27) (by repeat (first|exact Pick.here|apply Pick.there))) fun w' hh=>?_
   with_reducible repeat' first|refine kk_ ?_|refine nx hh ?_|refine allW fun w' hh=>?_|exact sd_|refine ai ?_ ?_|exact vr|fail
   exact ke _ _ he _ hh.done
end
theorem f24x {w:World} {n c:Nat} {p:Option Addr} {l:List UInt8} {op:Bool} {K:Value→World→Prop} {X:List PanicEntry→World→Prop} (hs:Sees w 1 p n c (u8s l)) (hn:n≤1000000000)
  (ke:∀ e a,zay l op = .error (e,a)→∀ w',Bl w w'→K (rejV e a) w') (ko:∀ C,zay l op = .ok C→∀ hd w',Bl w w'→ContAt w' hd C→ContNew w hd C→CodesRow w w' hd C→K (okV hd C) w'):zbt Tryz.prog 24 #[.slice p n c,.bool op] w K X:=by
 refine call24 _ _ _ _ _ _ _ ?_
 unfold F24
 have hb:=hs.bytes
 have hh:=Hp.see hs (Hp.start w) (by simp)
 with_reducible refine zci hh fun w1 hh _=>?_
 with_reducible refine zci hh fun w2 hh _=>?_
 with_reducible refine zci hh fun w3 hh _=>?_
 have hP:zay l op=zay l op:=rfl
 conv at hP=>rhs;unfold zay
 replace hh:=((hh.front (x:=.own _ #[.slice none 0 0,.slice none 0 0,.slice none 0 0,.slice none 0 0,.int .i64 0] 27) (by repeat (first|exact Pick.here|apply Pick.there))).front (x:=.see 1 p n c (u8s l)) (by repeat (first|exact Pick.here|apply Pick.there))).front (x:=.own _ #[.slice p n c,.int .i64 0] 115) (by repeat (first|exact Pick.here|apply Pick.there))
 generalize w.heap.size=x4 at hh ⊢
 generalize w1.heap.size=x5 at hh ⊢
 generalize w2.heap.size=x6 at hh ⊢
 refine f42 (a:=0) (p:=p) (n:=n) (c:=c) (l:=l) hh rfl hn (by omega) (fun x hx a' w' hh=>?_) (fun hx hle w1 hh=>?_)
 ·have he:zay l op = .error x:=by rw [hP,hx];rfl
  refine pan24 ((hh.front (x:=.own x5 #[_,_,_,_] 31) (by repeat (first|exact Pick.here|apply Pick.there))).front (x:=.own x4 #[_,_,_,_,_] 27) (by repeat (first|exact Pick.here|apply Pick.there))) fun w' hh=>?_
  with_reducible repeat' first|refine kk_ ?_|refine nx hh ?_|refine allW fun w' hh=>?_|exact sd_|refine ai ?_ ?_|exact vr|fail
  exact ke _ _ he _ hh.done
 rw [hx,zaq] at hP
 with_reducible repeat' first|refine kk_ ?_|refine nx hh ?_|refine allW fun w' hh=>?_|exact sd_|refine ai ?_ ?_|exact vr|fail
 refine f42 (a:=1) (p:=p) (n:=n) (c:=c) (l:=l) hh rfl hn hle (fun x hx a' w' hh=>?_) (fun hx hle w1 hh=>?_)
 ·have he:zay l op = .error x:=by rw [hP,hx];rfl
  refine pan24 ((hh.front (x:=.own x5 #[_,_,_,_] 31) (by repeat (first|exact Pick.here|apply Pick.there))).front (x:=.own x4 #[_,_,_,_,_] 27) (by repeat (first|exact Pick.here|apply Pick.there))) fun w' hh=>?_
  with_reducible repeat' first|refine kk_ ?_|refine nx hh ?_|refine allW fun w' hh=>?_|exact sd_|refine ai ?_ ?_|exact vr|fail
  exact ke _ _ he _ hh.done
 rw [hx,zaq] at hP
 with_reducible repeat' first|refine kk_ ?_|refine nx hh ?_|refine allW fun w' hh=>?_|exact sd_|refine ai ?_ ?_|exact vr|fail
 refine f42 (a:=2) (p:=p) (n:=n) (c:=c) (l:=l) hh rfl hn hle (fun x hx a' w' hh=>?_) (fun hx hle w1 hh=>?_)
 ·have he:zay l op = .error x:=by rw [hP,hx];rfl
  refine pan24 ((hh.front (x:=.own x5 #[_,_,_,_] 31) (by repeat (first|exact Pick.here|apply Pick.there))).front (x:=.own x4 #[_,_,_,_,_] 27) (by repeat (first|exact Pick.here|apply Pick.there))) fun w' hh=>?_
  with_reducible repeat' first|refine kk_ ?_|refine nx hh ?_|refine allW fun w' hh=>?_|exact sd_|refine ai ?_ ?_|exact vr|fail
  exact ke _ _ he _ hh.done
 rw [hx,zaq] at hP
 with_reducible repeat' first|refine kk_ ?_|refine nx hh ?_|refine allW fun w' hh=>?_|exact sd_|refine ai ?_ ?_|exact vr|fail
 refine f42 (a:=3) (p:=p) (n:=n) (c:=c) (l:=l) hh rfl hn hle (fun x hx a' w' hh=>?_) (fun hx hle w1 hh=>?_)
 ·have he:zay l op = .error x:=by rw [hP,hx];rfl
  refine pan24 ((hh.front (x:=.own x5 #[_,_,_,_] 31) (by repeat (first|exact Pick.here|apply Pick.there))).front (x:=.own x4 #[_,_,_,_,_] 27) (by repeat (first|exact Pick.here|apply Pick.there))) fun w' hh=>?_
  with_reducible repeat' first|refine kk_ ?_|refine nx hh ?_|refine allW fun w' hh=>?_|exact sd_|refine ai ?_ ?_|exact vr|fail
  exact ke _ _ he _ hh.done
 rw [hx,zaq] at hP
 with_reducible repeat' first|refine kk_ ?_|refine nx hh ?_|refine allW fun w' hh=>?_|exact sd_|refine ai ?_ ?_|exact vr|fail
 refine f43 (s:=2) (a:=4) (p:=p) (n:=n) (c:=c) (l:=l) hh rfl (by decide) hn hle (fun x hx=>?_) fun four hfour hle2 w2 hh=>?_
 ·have he:zay l op = .error x:=by rw [hP,hx];rfl
  refine pan24 ((hh.front (x:=.own x5 #[_,_,_,_] 31) (by repeat (first|exact Pick.here|apply Pick.there))).front (x:=.own x4 #[_,_,_,_,_] 27) (by repeat (first|exact Pick.here|apply Pick.there))) fun w' hh=>?_
  with_reducible repeat' first|refine kk_ ?_|refine nx hh ?_|refine allW fun w' hh=>?_|exact sd_|refine ai ?_ ?_|exact vr|fail
  exact ke _ _ he _ hh.done
 rw [hfour,zaq] at hP
 have hfl:=fieldT_lt (by decide) hfour
 have htm:Int.tmod four 4=four % 4:=Int.tmod_eq_emod_of_nonneg hfl.1
 with_reducible repeat' first|refine kk_ ?_|refine nx hh ?_|refine allW fun w' hh=>?_|exact sd_|refine ai ?_ ?_|exact vr|fail
 first|rw [htm]|(dsimp only;rw [htm])
 refine ifD (fun h1=>?_) fun h1=>?_
 ·rw [decide_eq_true h1,Bool.true_and] at hP
  refine ifE (fun h2=>?_) (fun h2=>?_)
  ·rw [decide_eq_true h2,Bool.true_and] at hP
   refine f44 (fun hbb=>?_) (fun hbb=>?_)
   ·rw [hbb,askT_t,zaq] at hP
    with_reducible repeat' first|refine kk_ ?_|refine nx hh ?_|refine allW fun w' hh=>?_|exact sd_|refine ai ?_ ?_|exact vr|fail
    exact j24_0 hh hn hle2 hfl.1 (by simpa using hbb) ke ko hP
   ·have he:zay l op = .error (54,4):=by rw [hP,hbb];rfl
    refine pan24 ((hh.front (x:=.own x5 #[_,_,_,_] 31) (by repeat (first|exact Pick.here|apply Pick.there))).front (x:=.own x4 #[_,_,_,_,_] 27) (by repeat (first|exact Pick.here|apply Pick.there))) fun w' hh=>?_
    with_reducible repeat' first|refine kk_ ?_|refine nx hh ?_|refine allW fun w' hh=>?_|exact sd_|refine ai ?_ ?_|exact vr|fail
    exact ke _ _ he _ hh.done
  ·refine f44 (fun hbb=>by cases hbb) (fun hbb=>?_)
   have he:zay l op = .error (54,4):=by rw [hP,decide_eq_false h2];rfl
   refine pan24 ((hh.front (x:=.own x5 #[_,_,_,_] 31) (by repeat (first|exact Pick.here|apply Pick.there))).front (x:=.own x4 #[_,_,_,_,_] 27) (by repeat (first|exact Pick.here|apply Pick.there))) fun w' hh=>?_
   with_reducible repeat' first|refine kk_ ?_|refine nx hh ?_|refine allW fun w' hh=>?_|exact sd_|refine ai ?_ ?_|exact vr|fail
   exact ke _ _ he _ hh.done
 ·refine f44 (fun hbb=>by cases hbb) (fun hbb=>?_)
  have he:zay l op = .error (54,4):=by rw [hP,decide_eq_false h1];rfl
  refine pan24 ((hh.front (x:=.own x5 #[_,_,_,_] 31) (by repeat (first|exact Pick.here|apply Pick.there))).front (x:=.own x4 #[_,_,_,_,_] 27) (by repeat (first|exact Pick.here|apply Pick.there))) fun w' hh=>?_
  with_reducible repeat' first|refine kk_ ?_|refine nx hh ?_|refine allW fun w' hh=>?_|exact sd_|refine ai ?_ ?_|exact vr|fail
  exact ke _ _ he _ hh.done
theorem f24 {w:World} {n c:Nat} {p:Option Addr} {l:List UInt8} {op:Bool} {K:Value→World→Prop} {X:List PanicEntry→World→Prop} (hs:Sees w 1 p n c (u8s l)) (hn:n≤1000000000)
  (ke:∀ e a,zay l op = .error (e,a)→∀ w',Bl w w'→K (rejV e a) w') (ko:∀ C,zay l op = .ok C→∀ hd w',Bl w w'→ContAt w' hd C→ContNew w hd C→K (okV hd C) w'):zbt Tryz.prog 24 #[.slice p n c,.bool op] w K X :=
 f24x hs hn ke fun C hC hd w' hb hc hn _=>ko C hC hd w' hb hc hn
def barsT (c k:Int):Bool:=if k=2 then (c == 0 || c == 243) else if k=1 then c == 238 else true
theorem f136 {c k:Int} {w:World} {K:Value→World→Prop} (kk:K (.bool (barsT c k)) w):zaj Tryz.prog 136 #[.int .i64 c,.int .i64 k] w K:=by
 refine call136 _ _ _ _ ?_
 unfold F136
 refine ifE (fun h1=>ifE (fun h2=>?_) fun h2=>?_) fun h1=>ifE (fun h2=>?_) fun h2=>?_
 ·rw [barsT,if_pos h1,h2] at kk;exact kk
 ·rw [barsT,if_pos h1,show (c == 0)=false by simpa using h2] at kk;exact kk
 ·rw [barsT,if_neg h1,if_pos h2] at kk;exact kk
 ·rw [barsT,if_neg h1,if_neg h2] at kk;exact kk
def zdd (c:Int) (l:List UInt8):Int × Int × Bool :=
 match opT c with
 | none=>(0,0,false)
 | some r =>
  if r.imm = -1 then
   if l.length=0 then (0,0,false) else
   if (l.length:Int)≠2 * ((l.getD 0 0).toNat:Int)+3 then (0,0,false) else (r.inn,r.out,true)
  else if (l.length:Int)≠r.imm then (0,0,false) else
   if c=230∨c=231 then (r.inn+(l.getD 0 0).toNat,r.out+(l.getD 0 0).toNat,true) else
   if c=232 then (r.inn+((l.getD 0 0).toNat / 16:Nat)+((l.getD 0 0).toNat % 16:Nat),r.out+((l.getD 0 0).toNat / 16:Nat)+((l.getD 0 0).toNat % 16:Nat),true) else (r.inn,r.out,true)
theorem opT_io:∀ i:Fin 256,(match opT ((i.val:Nat):Int) with|some r=>decide (0≤r.inn∧r.inn≤17∧0≤r.out∧r.out≤17∧0≤r.gas∧r.gas≤40000)|none=>true)=true:=by decide +kernel
theorem opT_bounds {c:Int} {r:OpR} (h0:0≤c) (h1:c < 256) (h:opT c=some r):0≤r.inn∧r.inn≤17∧0≤r.out∧r.out≤17∧0≤r.gas∧r.gas≤40000:=by
 obtain ⟨k,rfl⟩:=Int.eq_ofNat_of_zero_le h0
 have:=opT_io ⟨k,by omega⟩
 simp only [h] at this
 exact of_decide_eq_true this
theorem nib1:∀ b:UInt8,IntKind.wrap .i64 (Int.fdiv (b.toNat:Int) (2 ^ (min (4:Int).toNat 8)))=((b.toNat / 16:Nat):Int):=by
 intro b
 have hb:=b.toNat_lt
 have e:Int.fdiv (b.toNat:Int) (2 ^ (min (4:Int).toNat 8))=((b.toNat / 16:Nat):Int):=by
  rw [show (2:Int) ^ (min (4:Int).toNat 8)=16 from rfl,Int.fdiv_eq_ediv_of_nonneg _ (by omega)]
  omega
 rw [e,i64w (by omega) (by omega)]
theorem nib2 (b:UInt8):IntKind.wrap .i64 (bitI .and .u8 (b.toNat:Int) 15)=((b.toNat % 16:Nat):Int):=by
 have key:∀ i:Fin 256,IntKind.wrap .i64 (bitI .and .u8 ((i.val:Nat):Int) 15)=((i.val % 16:Nat):Int):=by decide +kernel
 exact key ⟨b.toNat,b.toNat_lt⟩
theorem nibs (b:UInt8):IntKind.wrap .i64 (IntKind.wrap .i64 (Int.fdiv (b.toNat:Int) (2 ^ (min (4:Int).toNat 8)))+IntKind.wrap .i64 (bitI .and .u8 (b.toNat:Int) 15))=((b.toNat / 16:Nat):Int)+((b.toNat % 16:Nat):Int):=by
 have hb:=b.toNat_lt
 rw [nib1,nib2,i64w (by omega) (by omega)]
theorem f160 {code:Int} {p:Option Addr} {n c:Nat} {l:List UInt8} {w:World} {K:Value→World→Prop} (h0:0≤code) (h1:code < 256) (hs:Sees w 1 p n c (u8s l)) (hln:l.length≤1000000)
  (k:∀ w',Bl w w'→K (.tuple #[.int .i64 (zdd code l).1,.int .i64 (zdd code l).2.1,.bool (zdd code l).2.2]) w'):zaj Tryz.prog 160 #[.int .i64 code,.slice p n c] w K:=by
 refine call160 _ _ _ _ _ _ ?_
 unfold F160
 have hn:=hs.bytes
 have hh:=Hp.see hs (Hp.start w) (by simp)
 have key:∀ x w',zdd code l=x→Bl w w'→K (.tuple #[.int .i64 x.1,.int .i64 x.2.1,.bool x.2.2]) w':=fun x w' hx hb=>hx ▸ k w' hb
 refine f36 h0 h1 fun cd nm imm inn out gas en w1 hb hr=>?_
 replace hh:=hh.bl hb
 cases ho:opT code with
 | none =>
  rw [ho] at hr
  with_reducible repeat' first|refine kk_ ?_|refine nx hh ?_|refine allW fun w' hh=>?_|exact sd_|refine ai ?_ ?_|exact vr|fail
  refine ifBt ?_
  exact key (0,0,false) _ (by rw [zdd,ho]) hh.done
 | some r =>
  rw [ho] at hr
  obtain ⟨rfl,rfl,rfl,rfl,rfl,rfl⟩:=rowP_some hr
  obtain ⟨b1,b2,b3,b4,b5,b6⟩:=opT_bounds h0 h1 ho
  with_reducible repeat' first|refine kk_ ?_|refine nx hh ?_|refine allW fun w' hh=>?_|exact sd_|refine ai ?_ ?_|exact vr|fail
  refine ifBf ?_
  repeat' first|(with_reducible first|refine kk_ ?_|refine nx hh ?_|refine allW fun w' hh=>?_|exact sd_|refine ifE (fun h2=>?_) (fun h2=>?_)|refine And.intro ?_ ?_|exact vr)|fail
  ·-- a table
   rename_i h3
   exact key (0,0,false) _ (by rw [zdd,ho];simp only;rw [if_pos h3,if_pos (by omega)]) hh.done
  ·rename_i h3
   refine rdB hh (by with_unfolding_all rfl) (by with_unfolding_all rfl) (by omega) (by omega) (fun b hb=>?_)
   have hbl:=b.toNat_lt
   have hget:l.getD 0 0=b:=by rw [List.getD_eq_getElem?_getD,show l[0]? = some b from hb];rfl
   rw [i64w (n:=(b.toNat:Int)) (by omega) (by omega),i64w (n:=2 * (b.toNat:Int)) (by omega) (by omega),i64w (n:=2 * (b.toNat:Int)+3) (by omega) (by omega)]
   unfold J160_0
   refine ifNe (fun h4=>?_) fun h4=>?_
   ·exact key (0,0,false) _ (by rw [zdd,ho];simp only;rw [if_pos h3,if_neg (by omega),if_pos (by rw [hget];omega)]) hh.done
   ·have hc:¬ cd=230∧¬ cd=231∧¬ cd=232:=by
     refine ⟨?_,?_,?_⟩ <;> (intro e;subst e;cases ho;simp at h3)
    have hx:zdd cd l=(r.inn,r.out,true):=by rw [zdd,ho];simp only;rw [if_pos h3,if_neg (by omega),if_neg (by rw [hget];omega)]
    refine ifE (fun h5=>absurd h5 hc.1) fun h5=>?_
    unfold J160_2
    refine ifE (fun h6=>absurd h6 hc.2.1) fun h6=>?_
    refine ifE (fun h7=>absurd h7 hc.2.2) fun h7=>?_
    unfold J160_1
    with_reducible repeat' first|refine kk_ ?_|refine nx hh ?_|refine allW fun w' hh=>?_|exact sd_|refine ai ?_ ?_|exact vr|fail
    exact key _ _ hx hh.done
  ·unfold J160_0
   refine ifNe (fun h4=>?_) fun h4=>?_
   ·exact key (0,0,false) _ (by rw [zdd,ho];simp only;rw [if_neg h2,if_pos (by omega)]) hh.done
   ·have hstep:∀ (b:Bool) {w'},(b=true ↔ cd=230∨cd=231)→(b=false→¬ (cd=230∨cd=231))→Hp zan w w' (.own w1.heap.size #[.int .i64 cd,.string nm,.int .i64 r.imm,.int .i64 r.inn,.int .i64 r.out,.int .i64 r.gas,.bool r.ends] 101::[.see 1 p n c (u8s l)])→J160_2 K p n c ⟨w1.heap.size,0,none⟩ cd b w':=by
     intro b w' hb1 hb2 hh
     unfold J160_2
     have lenPos:(cd=230∨cd=231∨cd=232)→0 < n:=by
      intro h
      have:r.imm=1:=by
       rcases h with e|e|e <;> (subst e;cases ho;rfl)
      omega
     cases b with
     | true =>
      have hcc:=hb1.1 rfl
      refine ifBt ?_
      have hn0:=lenPos (by omega)
      have hb:l[(0:Int).toNat]? = some (l[0]'(by omega)):=List.getElem?_eq_getElem (by omega)
      have hget:l.getD 0 0=l[0]'(by omega):=by rw [List.getD_eq_getElem?_getD,show l[0]? = some (l[0]'(by omega)) from hb];rfl
      have hbl:=(l[0]'(by omega)).toNat_lt
      have hx:zdd cd l=(r.inn+(l[0]'(by omega)).toNat,r.out+(l[0]'(by omega)).toNat,true):=by rw [zdd,ho];simp only;rw [if_neg h2,if_neg (by omega),if_pos hcc,hget]
      repeat' first|(with_reducible first|refine kk_ ?_|refine nx hh ?_|refine allW fun w' hh=>?_|exact sd_)|((with_reducible refine rdC hh (by with_unfolding_all rfl) (by with_unfolding_all rfl) (by omega) (by omega) (fun b hb'=>?_));(obtain rfl:=Option.some.inj (hb.symm.trans hb')))|(with_reducible first|refine And.intro ?_ ?_|exact vr)|fail
      unfold J160_1
      with_reducible repeat' first|refine kk_ ?_|refine nx hh ?_|refine allW fun w' hh=>?_|exact sd_|refine ai ?_ ?_|exact vr|fail
      first|rw [i64w (n:=((l[0]'(by omega)).toNat:Int)) (by omega) (by omega),i64w (n:=r.inn+_) (by omega) (by omega),i64w (n:=r.out+_) (by omega) (by omega)]|(dsimp only;rw [i64w (n:=((l[0]'(by omega)).toNat:Int)) (by omega) (by omega),i64w (n:=r.inn+_) (by omega) (by omega),i64w (n:=r.out+_) (by omega) (by omega)])
      exact key _ _ hx hh.done
     | false =>
      have hcc:=hb2 rfl
      refine ifBf ?_
      refine ifE (fun h7=>?_) fun h7=>?_
      ·have hn0:=lenPos (by omega)
       have hb:l[(0:Int).toNat]? = some (l[0]'(by omega)):=List.getElem?_eq_getElem (by omega)
       have hget:l.getD 0 0=l[0]'(by omega):=by rw [List.getD_eq_getElem?_getD,show l[0]? = some (l[0]'(by omega)) from hb];rfl
       have hbl:=(l[0]'(by omega)).toNat_lt
       have hx:zdd cd l=(r.inn+((l[0]'(by omega)).toNat / 16:Nat)+((l[0]'(by omega)).toNat % 16:Nat),r.out+((l[0]'(by omega)).toNat / 16:Nat)+((l[0]'(by omega)).toNat % 16:Nat),true):=by rw [zdd,ho];simp only;rw [if_neg h2,if_neg (by omega),if_neg hcc,if_pos h7,hget]
       repeat' first|(with_reducible first|refine kk_ ?_|refine nx hh ?_|refine allW fun w' hh=>?_|exact sd_)|((with_reducible refine rdC hh (by with_unfolding_all rfl) (by with_unfolding_all rfl) (by omega) (by omega) (fun b hb'=>?_));(obtain rfl:=Option.some.inj (hb.symm.trans hb')))|(with_reducible first|refine And.intro ?_ ?_|exact vr)|fail
       unfold J160_1
       with_reducible repeat' first|refine kk_ ?_|refine nx hh ?_|refine allW fun w' hh=>?_|exact sd_|refine ai ?_ ?_|exact vr|fail
       first|rw [nibs,i64w (n:=r.inn+_) (by omega) (by omega),i64w (n:=r.out+_) (by omega) (by omega)]|(dsimp only;rw [nibs,i64w (n:=r.inn+_) (by omega) (by omega),i64w (n:=r.out+_) (by omega) (by omega)])
       rw [Int.add_assoc,Int.add_assoc] at hx
       exact key _ _ hx hh.done
      ·have hx:zdd cd l=(r.inn,r.out,true):=by rw [zdd,ho];simp only;rw [if_neg h2,if_neg (by omega),if_neg hcc,if_neg h7]
       unfold J160_1
       with_reducible repeat' first|refine kk_ ?_|refine nx hh ?_|refine allW fun w' hh=>?_|exact sd_|refine ai ?_ ?_|exact vr|fail
       exact key _ _ hx hh.done
    refine ifE (fun h5=>?_) fun h5=>?_
    ·refine hstep _ (by subst h5;simp) (by subst h5;simp) hh
    ·refine hstep _ (by simp [h5]) (by simp [h5]) hh
theorem zdk (i:Ins):0≤(zae i).1∧(zae i).1 < 65536:=by
 unfold zae
 have:=pairT_lt i.imm
 have:=(i.imm.getD 0 0).toNat_lt
 repeat' split
 all_goals simp only
 all_goals omega
abbrev tyAt (ts:List Ty) (i:Ins):Ty:=ts.getD (zae i).1.toNat ⟨0,0,0⟩
def namedP (ts:List Ty) (own:Ty) (i:Ins):Bool :=
 if i.code=228 then own.out != 128 else
 if i.code≠227∧i.code≠229 then true else
 if (zae i).1 ≥ ts.length then false else
 if i.code=227 then !((tyAt ts i).out == 128) else
 if (tyAt ts i).out=128 then true else
 if own.out≠128 then decide ((tyAt ts i).out≤own.out) else false
abbrev passC (th:Hd) (own:Ty) (v4 v5:Value):Array Value:=#[th.v,.int .i64 own.inn,.int .i64 own.out,.int .i64 own.most,v4,v5]
section
variable {w:World} {K:Value→World→Prop} {pb:Nat} {th:Hd} {ts:List Ty} {own:Ty} {v4 v5:Value} {i:Ins} {p:Option Addr} {n c:Nat}
theorem f158 (hp:Own w pb (passC th own v4 v5) 239) (hty:Sees w 3 th.p th.n th.c (zat ts)) (hs:Sees w 1 p n c (u8s i.imm)) (hil:i.imm.length≤600) (h0:0≤i.code) (h1:i.code < 256)
  (k:∀ w',Bl w w'→K (.bool (namedP ts own i)) w'):zaj Tryz.prog 158 #[.pointer (some ⟨pb,0,none⟩),.agg #[.int .i64 i.at_,.int .i64 i.code,.slice p n c,.int .i64 i.next]] w K:=by
 refine call158 _ _ _ _ _ _ _ _ _ ?_
 unfold F158
 have hh:=Hp.start1 hp
 have hn:=hs.bytes
 have htn:th.n=ts.length:=by have:=hty.len;rw [zbw] at this;omega
 have hnm:=zdk i
 have key:∀ x w',namedP ts own i=x→Bl w w'→K (.bool x) w':=fun x w' hx hb=>hx ▸ k w' hb
 have J:∀ {w'} {x3:Nat},(¬ i.code=228)→(i.code=227∨i.code=229)→Hp (fun k=>k=pb) w w' [.own x3 #[.int .i64 i.at_,.int .i64 i.code,.slice p n c,.int .i64 i.next] 70,.own pb (passC th own v4 v5) 239]→J158_0 K (some ⟨pb,0,none⟩) ⟨x3,0,none⟩ w':=by
  intro w' x3 hc hcc hh
  unfold J158_0
  have e1:namedP ts own i=if (zae i).1 ≥ ts.length then false else if i.code=227 then !((tyAt ts i).out == 128) else if (tyAt ts i).out=128 then true else if own.out≠128 then decide ((tyAt ts i).out≤own.out) else false:=by
   rw [namedP,if_neg hc,if_neg (by omega)]
  repeat' first|(with_reducible first|refine kk_ ?_|refine nx hh ?_|refine allW fun w' hh=>?_|exact sd_)|((with_reducible refine f37 h0 h1 (hs.bl (hh.done1 hp (by repeat (first|exact m0|apply mS)))) (by omega) fun w' hb=>?_);(replace hh:=hh.bl hb))|(with_reducible first|refine And.intro ?_ ?_|exact vr)|fail
  refine ifD (fun h2=>?_) fun h2=>?_
  ·exact key _ _ (by rw [e1,if_pos (by omega)]) (hh.done1 hp (by repeat (first|exact m0|apply mS)))
  rw [if_neg (by omega)] at e1
  with_reducible repeat' first|refine kk_ ?_|refine nx hh ?_|refine allW fun w' hh=>?_|exact sd_|refine ai ?_ ?_|exact vr|fail
  refine rdTy (hty.bl (hh.done1 hp (by repeat (first|exact m0|apply mS)))) (by with_unfolding_all rfl) (by with_unfolding_all rfl) (by omega) (by omega) fun t ad ht c0 c1 c2=>?_
  have hget:tyAt ts i=t:=by unfold tyAt;rw [List.getD_eq_getElem?_getD,ht];rfl
  rw [hget] at e1
  repeat' first|(with_reducible first|refine kk_ ?_|refine nx hh ?_|refine allW fun w' hh=>?_|exact sd_|refine ld c1 ?_|refine ifE (fun h3=>?_) (fun h3=>?_)|refine And.intro ?_ ?_|exact vr)|fail
  ·exact key _ _ (by rw [e1];((repeat' split) <;> first|rfl|omega|contradiction|simp_all)) (hh.done1 hp (by repeat (first|exact m0|apply mS)))
  ·exact key _ _ (by rw [e1];((repeat' split) <;> first|rfl|omega|contradiction|simp_all)) (hh.done1 hp (by repeat (first|exact m0|apply mS)))
  ·refine ifNe (fun h5=>?_) fun h5=>?_
   ·with_reducible repeat' first|refine kk_ ?_|refine nx hh ?_|refine allW fun w' hh=>?_|exact sd_|refine ai ?_ ?_|exact vr|fail
    refine rdTy (hty.bl (hh.done1 hp (by repeat (first|exact m0|apply mS)))) (by with_unfolding_all rfl) (by with_unfolding_all rfl) (by omega) (by omega) fun t' ad' ht' d0 d1 d2=>?_
    rw [ht] at ht';cases ht'
    repeat' first|(with_reducible first|refine kk_ ?_|refine nx hh ?_|refine allW fun w' hh=>?_|exact sd_|refine ld d1 ?_|refine And.intro ?_ ?_|exact vr)|fail
    exact key _ _ (by rw [e1];((repeat' split) <;> first|rfl|omega|contradiction|simp_all)) (hh.done1 hp (by repeat (first|exact m0|apply mS)))
   ·exact key _ _ (by rw [e1];((repeat' split) <;> first|rfl|omega|contradiction|simp_all)) (hh.done1 hp (by repeat (first|exact m0|apply mS)))
 repeat' first|(with_reducible first|refine kk_ ?_|refine nx hh ?_|refine allW fun w' hh=>?_|exact sd_|refine ifE (fun h2=>?_) (fun h2=>?_)|refine ifNe (fun h3=>?_) (fun h3=>?_)|refine And.intro ?_ ?_|exact vr)|fail
 ·exact key _ _ (by rw [namedP,if_pos h2]) (hh.done1 hp (by repeat (first|exact m0|apply mS)))
 ·exact key _ _ (by rw [namedP,if_neg h2,if_pos (by omega)]) (hh.done1 hp (by repeat (first|exact m0|apply mS)))
 ·exact J h2 (by omega) hh
 ·exact J h2 (by omega) hh
theorem f159 (hp:Own w pb (passC th own v4 v5) 239) (hty:Sees w 3 th.p th.n th.c (zat ts)) (hs:Sees w 1 p n c (u8s i.imm)) (hil:i.imm.length≤600) (h0:0≤i.code) (h1:i.code < 256) (hlt:(zae i).1 < ts.length)
  (k:∀ w',Bl w w'→K (.agg #[.int .i64 (tyAt ts i).inn,.int .i64 (tyAt ts i).out,.int .i64 (tyAt ts i).most]) w'):zaj Tryz.prog 159 #[.pointer (some ⟨pb,0,none⟩),.agg #[.int .i64 i.at_,.int .i64 i.code,.slice p n c,.int .i64 i.next]] w K:=by
 refine call159 _ _ _ _ _ _ _ _ _ ?_
 unfold F159
 have hh:=Hp.start1 hp
 have htn:th.n=ts.length:=by have:=hty.len;rw [zbw] at this;omega
 have hnm:=zdk i
 repeat' first|(with_reducible first|refine kk_ ?_|refine nx hh ?_|refine allW fun w' hh=>?_|exact sd_)|((with_reducible refine f37 h0 h1 (hs.bl (hh.done1 hp (by repeat (first|exact m0|apply mS)))) (by omega) fun w' hb=>?_);(replace hh:=hh.bl hb))|(with_reducible first|refine And.intro ?_ ?_|exact vr)|fail
 refine rdTy (hty.bl (hh.done1 hp (by repeat (first|exact m0|apply mS)))) (by with_unfolding_all rfl) (by with_unfolding_all rfl) (by omega) (by omega) fun t ad ht c0 c1 c2=>?_
 have hget:tyAt ts i=t:=by unfold tyAt;rw [List.getD_eq_getElem?_getD,ht];rfl
 rw [hget] at k
 repeat' first|(with_reducible first|refine kk_ ?_|refine nx hh ?_|refine allW fun w' hh=>?_|exact sd_|refine ld c0 ?_|refine ld c1 ?_|refine ld c2 ?_|refine And.intro ?_ ?_|exact vr)|fail
 exact k _ (hh.done1 hp (by repeat (first|exact m0|apply mS)))
def zbe (ts:List Ty) (own:Ty) (i:Ins):Int × Int :=
 if i.code=227 then ((tyAt ts i).inn,(tyAt ts i).out) else if i.code=229 then ((tyAt ts i).inn,0) else if i.code=228 then (own.out,0) else ((zdd i.code i.imm).1,(zdd i.code i.imm).2.1)
theorem f141 (hp:Own w pb (passC th own v4 v5) 239) (hty:Sees w 3 th.p th.n th.c (zat ts)) (hs:Sees w 1 p n c (u8s i.imm)) (hil:i.imm.length≤600) (h0:0≤i.code) (h1:i.code < 256) (hlt:i.code=227∨i.code=229→(zae i).1 < ts.length)
  (k:∀ w',Bl w w'→K (.tuple #[.int .i64 (zbe ts own i).1,.int .i64 (zbe ts own i).2]) w'):zaj Tryz.prog 141 #[.pointer (some ⟨pb,0,none⟩),.agg #[.int .i64 i.at_,.int .i64 i.code,.slice p n c,.int .i64 i.next]] w K:=by
 refine call141 _ _ _ _ _ _ _ _ _ ?_
 unfold F141
 have hh:=Hp.start1 hp
 have key:∀ x w',zbe ts own i=x→Bl w w'→K (.tuple #[.int .i64 x.1,.int .i64 x.2]) w':=fun x w' hx hb=>hx ▸ k w' hb
 repeat' first|(with_reducible first|refine kk_ ?_|refine nx hh ?_|refine allW fun w' hh=>?_|exact sd_|refine ifE (fun h2=>?_) (fun h2=>?_)|refine And.intro ?_ ?_|exact vr)|fail
 ·refine f159 (hh.own (by repeat (first|exact m0|apply mS))) (hty.bl (hh.done1 hp (by repeat (first|exact m0|apply mS)))) (hs.bl (hh.done1 hp (by repeat (first|exact m0|apply mS)))) hil h0 h1 (hlt (.inl h2)) fun w1 hb=>?_
  replace hh:=hh.bl hb
  with_reducible repeat' first|refine kk_ ?_|refine nx hh ?_|refine allW fun w' hh=>?_|exact sd_|refine ai ?_ ?_|exact vr|fail
  exact key _ _ (by rw [zbe,if_pos h2]) (hh.done1 hp (by repeat (first|exact m0|apply mS)))
 ·refine f159 (hh.own (by repeat (first|exact m0|apply mS))) (hty.bl (hh.done1 hp (by repeat (first|exact m0|apply mS)))) (hs.bl (hh.done1 hp (by repeat (first|exact m0|apply mS)))) hil h0 h1 (hlt (.inr h2)) fun w1 hb=>?_
  replace hh:=hh.bl hb
  with_reducible repeat' first|refine kk_ ?_|refine nx hh ?_|refine allW fun w' hh=>?_|exact sd_|refine ai ?_ ?_|exact vr|fail
  rename_i h3
  exact key _ _ (by rw [zbe,if_neg h3,if_pos h2]) (hh.done1 hp (by repeat (first|exact m0|apply mS)))
 ·rename_i h3 h4
  exact key _ _ (by rw [zbe,if_neg h3,if_neg h4,if_pos h2]) (hh.done1 hp (by repeat (first|exact m0|apply mS)))
 ·rename_i h3 h4
  refine f160 h0 h1 (hs.bl (hh.done1 hp (by repeat (first|exact m0|apply mS)))) (by omega) fun w1 hb=>?_
  replace hh:=hh.bl hb
  with_reducible repeat' first|refine kk_ ?_|refine nx hh ?_|refine allW fun w' hh=>?_|exact sd_|refine ai ?_ ?_|exact vr|fail
  exact key _ _ (by rw [zbe,if_neg h3,if_neg h4,if_neg h2]) (hh.done1 hp (by repeat (first|exact m0|apply mS)))
end
def TyOK (t:Ty):Prop:=0≤t.inn∧t.inn≤127∧0≤t.out∧t.out≤128∧0≤t.most∧t.most≤1023
instance (t:Ty):Decidable (TyOK t):=inferInstanceAs (Decidable (_∧_∧_∧_∧_∧_))
theorem tyAt_ok {ts:List Ty} (h:∀ t∈ts,TyOK t) (i:Ins):TyOK (tyAt ts i):=by
 unfold tyAt
 rw [List.getD_eq_getElem?_getD]
 cases hg:ts[(zae i).1.toNat]? with
 | none=>exact by decide
 | some t=>exact h t (List.mem_of_getElem? hg)
def wrongT (ts:List Ty) (own:Ty) (i:Ins) (lo hi:Int):Int :=
 if i.code=228 then (if lo=(zbe ts own i).1∧hi=(zbe ts own i).1 then 0 else 74) else
 if lo < (zbe ts own i).1 then 70 else
 if (i.code=227∨i.code=229)∧hi - (zbe ts own i).1+(tyAt ts i).most > 1024 then 71 else
 if i.code=229 then (if (tyAt ts i).out≠128∧¬ (lo=own.out - (tyAt ts i).out+(tyAt ts i).inn∧hi=own.out - (tyAt ts i).out+(tyAt ts i).inn) then 74 else 0) else
 if hi - (zbe ts own i).1+(zbe ts own i).2 > 1023 then 71 else 0
theorem notAnd {a b c d:Int} (h:¬ (a=c∧b=d)):(!((a == c) && (b == d)))=true:=by
 cases h1:a == c <;> cases h2:b == d <;> simp_all
theorem needsT_lt {c:Int} {l:List UInt8} (h0:0≤c) (h1:c < 256):0≤(zdd c l).1∧(zdd c l).1≤300∧0≤(zdd c l).2.1∧(zdd c l).2.1≤300:=by
 unfold zdd
 cases ho:opT c with
 | none=>simp
 | some r =>
  obtain ⟨b1,b2,b3,b4,b5,b6⟩:=opT_bounds h0 h1 ho
  have:=(l.getD 0 0).toNat_lt
  simp only
  repeat' split
  all_goals simp only
  all_goals omega
theorem turnsT_lt {ts:List Ty} {own:Ty} {i:Ins} (h:∀ t∈ts,TyOK t) (ho:TyOK own) (h0:0≤i.code) (h1:i.code < 256):0≤(zbe ts own i).1∧(zbe ts own i).1≤300∧0≤(zbe ts own i).2∧(zbe ts own i).2≤300:=by
 have ht:=tyAt_ok h i
 unfold TyOK at ht ho
 have hn:=needsT_lt (l:=i.imm) h0 h1
 unfold zbe
 repeat' split
 all_goals simp only
 all_goals omega
section
variable {w:World} {K:Value→World→Prop} {pb:Nat} {th:Hd} {ts:List Ty} {own:Ty} {v4 v5:Value} {i:Ins} {p:Option Addr} {n c:Nat}
theorem f139 {lo hi:Int} (hp:Own w pb (passC th own v4 v5) 239) (hty:Sees w 3 th.p th.n th.c (zat ts)) (hs:Sees w 1 p n c (u8s i.imm)) (hil:i.imm.length≤600) (h0:0≤i.code) (h1:i.code < 256) (hlt:i.code=227∨i.code=229→(zae i).1 < ts.length)
  (hok:∀ t∈ts,TyOK t) (hoo:TyOK own) (hl0 : -100000≤lo) (hl1:lo≤100000) (hh0 : -100000≤hi) (hh1:hi≤100000)
  (k:∀ w',Bl w w'→K (.int .i64 (wrongT ts own i lo hi)) w'):zaj Tryz.prog 139 #[.pointer (some ⟨pb,0,none⟩),.agg #[.int .i64 i.at_,.int .i64 i.code,.slice p n c,.int .i64 i.next],.agg #[.int .i64 lo,.int .i64 hi]] w K:=by
 refine call139 _ _ _ _ _ _ _ _ _ _ _ ?_
 unfold F139
 have hh:=Hp.start1 hp
 have htl:=turnsT_lt hok hoo h0 h1 (i:=i)
 have hta:=tyAt_ok hok i
 unfold TyOK at hta hoo
 have key:∀ x w',wrongT ts own i lo hi=x→Bl w w'→K (.int .i64 x) w':=fun x w' hx hb=>hx ▸ k w' hb
 with_reducible repeat' first|refine kk_ ?_|refine nx hh ?_|refine allW fun w' hh=>?_|exact sd_|refine ai ?_ ?_|exact vr|fail
 refine f141 (hh.own (by repeat (first|exact m0|apply mS))) (hty.bl (hh.done1 hp (by repeat (first|exact m0|apply mS)))) (hs.bl (hh.done1 hp (by repeat (first|exact m0|apply mS)))) hil h0 h1 hlt fun w1 hb=>?_
 replace hh:=hh.bl hb
 repeat' first|(with_reducible first|refine kk_ ?_|refine nx hh ?_|refine allW fun w' hh=>?_|exact sd_|refine ifE (fun h2=>?_) (fun h2=>?_)|refine And.intro ?_ ?_|exact vr)|fail
 ·by_cases h3:lo=(zbe ts own i).1∧hi=(zbe ts own i).1
  ·first|rw [show (!((lo == (zbe ts own i).1) && (hi == (zbe ts own i).1)))=false by simp [h3.1,h3.2]]|(dsimp only;rw [show (!((lo == (zbe ts own i).1) && (hi == (zbe ts own i).1)))=false by simp [h3.1,h3.2]])
   exact key _ _ (by rw [wrongT,if_pos h2,if_pos h3]) (hh.done1 hp (by repeat (first|exact m0|apply mS)))
  ·first|rw [show (!((lo == (zbe ts own i).1) && (hi == (zbe ts own i).1)))=true from notAnd h3]|(dsimp only;rw [show (!((lo == (zbe ts own i).1) && (hi == (zbe ts own i).1)))=true from notAnd h3])
   exact key _ _ (by rw [wrongT,if_pos h2,if_neg h3]) (hh.done1 hp (by repeat (first|exact m0|apply mS)))
 have e0:wrongT ts own i lo hi=if lo < (zbe ts own i).1 then 70 else if (i.code=227∨i.code=229)∧hi - (zbe ts own i).1+(tyAt ts i).most > 1024 then 71 else
   if i.code=229 then (if (tyAt ts i).out≠128∧¬ (lo=own.out - (tyAt ts i).out+(tyAt ts i).inn∧hi=own.out - (tyAt ts i).out+(tyAt ts i).inn) then 74 else 0) else if hi - (zbe ts own i).1+(zbe ts own i).2 > 1023 then 71 else 0:=by rw [wrongT,if_neg h2]
 refine ifD (fun h3=>key _ _ (by rw [e0,if_pos h3]) (hh.done1 hp (by repeat (first|exact m0|apply mS)))) fun h3=>?_
 rw [if_neg h3] at e0
 have J0:∀ {w'} {x4 x5:Nat},¬ ((i.code=227∨i.code=229)∧hi - (zbe ts own i).1+(tyAt ts i).most > 1024)→Hp (fun k=>k=pb) w w' (.own x5 #[.int .i64 lo,.int .i64 hi] 241::.own x4 #[.int .i64 i.at_,.int .i64 i.code,.slice p n c,.int .i64 i.next] 70::.own pb (passC th own v4 v5) 239::[]) →
   J139_0 K (some ⟨pb,0,none⟩) ⟨x4,0,none⟩ ⟨x5,0,none⟩ (zbe ts own i).1 (zbe ts own i).2 w':=by
  intro w' x4 x5 h4 hh
  rw [if_neg h4] at e0
  unfold J139_0
  repeat' first|(with_reducible first|refine kk_ ?_|refine nx hh ?_|refine allW fun w' hh=>?_|exact sd_|refine ifE (fun h5=>?_) (fun h5=>?_)|refine And.intro ?_ ?_|exact vr)|fail
  ·rw [if_pos h5] at e0
   refine f159 (hh.own (by repeat (first|exact m0|apply mS))) (hty.bl (hh.done1 hp (by repeat (first|exact m0|apply mS)))) (hs.bl (hh.done1 hp (by repeat (first|exact m0|apply mS)))) hil h0 h1 (hlt (.inr h5)) fun w1 hb=>?_
   replace hh:=hh.bl hb
   repeat' first|(with_reducible first|refine kk_ ?_|refine nx hh ?_|refine allW fun w' hh=>?_|exact sd_|refine ifNe (fun h6=>?_) (fun h6=>?_)|refine And.intro ?_ ?_|exact vr)|fail
   ·first|rw [i64w (n:=own.out - (tyAt ts i).out) (by omega) (by omega),i64w (n:=own.out - (tyAt ts i).out+(tyAt ts i).inn) (by omega) (by omega)]|(dsimp only;rw [i64w (n:=own.out - (tyAt ts i).out) (by omega) (by omega),i64w (n:=own.out - (tyAt ts i).out+(tyAt ts i).inn) (by omega) (by omega)])
    by_cases h7:lo=own.out - (tyAt ts i).out+(tyAt ts i).inn∧hi=own.out - (tyAt ts i).out+(tyAt ts i).inn
    ·first|rw [show (!((lo == own.out - (tyAt ts i).out+(tyAt ts i).inn) && (hi == own.out - (tyAt ts i).out+(tyAt ts i).inn)))=false by simp [h7.1,h7.2]]|(dsimp only;rw [show (!((lo == own.out - (tyAt ts i).out+(tyAt ts i).inn) && (hi == own.out - (tyAt ts i).out+(tyAt ts i).inn)))=false by simp [h7.1,h7.2]])
     exact key _ _ (by rw [e0,if_neg (by intro h;exact h.2 h7)]) (hh.done1 hp (by repeat (first|exact m0|apply mS)))
    ·first|rw [show (!((lo == own.out - (tyAt ts i).out+(tyAt ts i).inn) && (hi == own.out - (tyAt ts i).out+(tyAt ts i).inn)))=true from notAnd h7]|(dsimp only;rw [show (!((lo == own.out - (tyAt ts i).out+(tyAt ts i).inn) && (hi == own.out - (tyAt ts i).out+(tyAt ts i).inn)))=true from notAnd h7])
     exact key _ _ (by rw [e0,if_pos ⟨h6,h7⟩]) (hh.done1 hp (by repeat (first|exact m0|apply mS)))
   ·exact key _ _ (by rw [e0,if_neg (by intro h;exact h.1 h6)]) (hh.done1 hp (by repeat (first|exact m0|apply mS)))
  ·rw [if_neg h5] at e0
   with_reducible repeat' first|refine kk_ ?_|refine nx hh ?_|refine allW fun w' hh=>?_|exact sd_|refine ai ?_ ?_|exact vr|fail
   first|rw [i64w (n:=hi - (zbe ts own i).1) (by omega) (by omega),i64w (by omega) (by omega)]|(dsimp only;rw [i64w (n:=hi - (zbe ts own i).1) (by omega) (by omega),i64w (by omega) (by omega)])
   refine ifD (fun h6=>?_) fun h6=>?_
   ·exact key _ _ (by rw [e0,if_pos h6]) (hh.done1 hp (by repeat (first|exact m0|apply mS)))
   ·exact key _ _ (by rw [e0,if_neg h6]) (hh.done1 hp (by repeat (first|exact m0|apply mS)))
 have J1:∀ {w'} {x4 x5:Nat} (b:Bool),(b=true ↔ i.code=227∨i.code=229)→Hp (fun k=>k=pb) w w' (.own x5 #[.int .i64 lo,.int .i64 hi] 241::.own x4 #[.int .i64 i.at_,.int .i64 i.code,.slice p n c,.int .i64 i.next] 70::.own pb (passC th own v4 v5) 239::[]) →
   J139_1 K (some ⟨pb,0,none⟩) ⟨x4,0,none⟩ ⟨x5,0,none⟩ (zbe ts own i).1 (zbe ts own i).2 b w':=by
  intro w' x4 x5 b hbc hh
  unfold J139_1
  cases b with
  | false =>
   refine ifBf (J0 (fun h=>?_) hh)
   have:=hbc.2 h.1
   cases this
  | true =>
   have hc:=hbc.1 rfl
   refine ifBt ?_
   with_reducible repeat' first|refine kk_ ?_|refine nx hh ?_|refine allW fun w' hh=>?_|exact sd_|refine ai ?_ ?_|exact vr|fail
   refine f159 (hh.own (by repeat (first|exact m0|apply mS))) (hty.bl (hh.done1 hp (by repeat (first|exact m0|apply mS)))) (hs.bl (hh.done1 hp (by repeat (first|exact m0|apply mS)))) hil h0 h1 (hlt hc) fun w1 hb=>?_
   replace hh:=hh.bl hb
   with_reducible repeat' first|refine kk_ ?_|refine nx hh ?_|refine allW fun w' hh=>?_|exact sd_|refine ai ?_ ?_|exact vr|fail
   first|rw [i64w (n:=hi - (zbe ts own i).1) (by omega) (by omega),i64w (by omega) (by omega)]|(dsimp only;rw [i64w (n:=hi - (zbe ts own i).1) (by omega) (by omega),i64w (by omega) (by omega)])
   refine ifD (fun h6=>?_) fun h6=>?_
   ·exact key _ _ (by rw [e0,if_pos ⟨hc,h6⟩]) (hh.done1 hp (by repeat (first|exact m0|apply mS)))
   ·exact J0 (fun h=>h6 h.2) hh
 repeat' first|(with_reducible first|refine kk_ ?_|refine nx hh ?_|refine allW fun w' hh=>?_|exact sd_|refine ifE (fun h4=>?_) (fun h4=>?_)|refine And.intro ?_ ?_|exact vr)|fail
 ·exact J1 true (by simp [h4]) hh
 ·exact J1 _ (by simp [h4]) hh
end
def zbk (l:List (Int × Int)):List Value:=l.flatMap fun x=>[.int .i64 x.1,.int .i64 x.2]
theorem spCells_len (l:List (Int × Int)):(zbk l).length=l.length * 2:=by
 induction l with
 | nil=>rfl
 | cons x l ih=>simp only [zbk,List.flatMap_cons,List.length_append] at ih ⊢;simp only [List.length_cons,List.length_nil];omega
theorem spCells_get {l:List (Int × Int)} {k j:Nat} {x:Int × Int} (h:l[k]? = some x) (hj:j < 2):(zbk l)[k * 2+j]? = [Value.int .i64 x.1,.int .i64 x.2][j]?:=by
 induction l generalizing k with
 | nil=>simp at h
 | cons y l ih =>
  cases k with
  | zero =>
   simp only [List.getElem?_cons_zero,Option.some.injEq] at h;subst h
   simp only [zbk,List.flatMap_cons,Nat.zero_mul,Nat.zero_add]
   rw [List.getElem?_append_left (by simpa using hj)]
  | succ k =>
   simp only [List.getElem?_cons_succ] at h
   rw [← ih h]
   simp only [zbk,List.flatMap_cons]
   rw [List.getElem?_append_right (by simp;omega)]
   congr 1;simp;omega
theorem spCells_put {l:List (Int × Int)} {x:Int × Int}:∀ {k:Nat},k < l.length→putC (zbk l) (k * 2) [.int .i64 x.1,.int .i64 x.2]=zbk (l.set k x):=by
 induction l with
 | nil=>intro k h;simp at h
 | cons y l ih =>
  intro k h
  cases k with
  | zero=>simp [zbk,putC]
  | succ k =>
   have:=ih (k:=k) (by simp at h;omega)
   simp only [putC] at this ⊢
   have e1:(k+1) * 2=k * 2+1+1:=by omega
   rw [e1]
   simp only [zbk,List.flatMap_cons,List.set_cons_succ,List.cons_append,List.nil_append] at this ⊢
   rw [this]
theorem repC_sp (n:Nat):repC [Value.int .i64 0,.int .i64 0] n=zbk (List.replicate n (0,0)):=by
 induction n with
 | zero=>rfl
 | succ n ih=>rw [repC,ih];try rfl
theorem bools_get {l:List Bool} {k:Nat} {b:Bool} (h:l[k]? = some b):(zbr l)[k]? = some (.bool b):=by simp [zbr,h]
theorem repC_bools (n:Nat):(List.replicate n (Value.bool false))=zbr (List.replicate n false):=by simp [zbr]
theorem ldM {P:Program} {w:World} {b o j:Nat} {cs:Array Value} {t:TypeId} {v:Value} {F:Value→Prop} (h:Own w b cs t) (hv:cs[o+j]? = some v) (k:F v):ldK P w (Addr.add ⟨b,o,none⟩ j) F:=by
 rw [Addr.add_mid];exact ldO h hv k
theorem zdo {P:Program} {w:World} {t e z b n c:Nat} {k:IntKind} {i:Nat} {F:Value→World→Prop} (ht:P.underlying t=some (.slice e)) (hz:(P.info? e).map (·.size)=some z) (h1:i < n)
  (kk:F (.pointer (some ⟨b,i * z,none⟩)) w):semK P (Instr.indexAt t (.slice (some ⟨b,0,none⟩) n c) (.int k (i:Int))) w F:=by
 refine ixS ht hz (by omega) (by omega) ?_
 rw [addG,Int.toNat_natCast];exact kk
theorem stOne {P:Program} {Z:Nat→Prop} {w0 w:World} {L M:List Ent} {b i:Nat} {cs:List Value} {t ty:TypeId} {v:Value} {F:World→Prop} (h:Hp Z w0 w L) (hm:Pos L (.own b cs.toArray t) (.own b (cs.set i v).toArray t) M) (hi:i < cs.length) (hz:(P.info? ty).map (·.size)=some 1) (h1:v.oneCell'=true) (hc:v.cells=#[v])
  (k:∀ w',Hp Z w0 w' M→Ext (· = b) w w'→F w'):semU P (Instr.storeAt ty (.pointer (some ⟨b,i,none⟩)) v) w F:=by
 have:cs.toArray.setIfInBounds i v=(cs.set i v).toArray:=by simp
 exact stH1 (t:=t) h (M:=M) (cs:=cs.toArray) (by rw [this];exact hm) (by simpa using hi) hz h1 hc k
def zdu (n to:Nat) (go:Int × Int) (hv:List (Int × Int)) (met:List Bool):Bool × List (Int × Int) × List Bool :=
 if to≤n then ((hv.getD to (0,0)).1 == go.1 && (hv.getD to (0,0)).2 == go.2,hv,met) else
 if met.getD to false=false then (true,hv.set to go,met.set to true) else
 (true,hv.set to (if go.1 < (hv.getD to (0,0)).1 then go.1 else (hv.getD to (0,0)).1,if go.2 > (hv.getD to (0,0)).2 then go.2 else (hv.getD to (0,0)).2),met)
abbrev E142 (x13 x11 x16 x12 g g2 m n:Nat) (go:Int × Int) (hv:List (Int × Int)) (met:List Bool) (R:List Ent):List Ent :=
 .own x13 #[.int .i64 (n:Int)] 3::.own x11 #[.slice (some ⟨g,0,none⟩) m m] 237::.own x16 #[.int .i64 go.1,.int .i64 go.2] 241::.own x12 #[.slice (some ⟨g2,0,none⟩) m m] 47::.own g (zbk hv).toArray 241::.own g2 (zbr met).toArray 4::R
section
variable {Z:Nat→Prop} {w0 w:World} {K:Value→World→Prop} {x13 x11 x16 x12 g g2 m n to:Nat} {go:Int × Int} {hv:List (Int × Int)} {met:List Bool} {R:List Ent}
theorem f142 (hh:Hp Z w0 w (E142 x13 x11 x16 x12 g g2 m n go hv met R)) (hl:hv.length=m) (ml:met.length=m) (hto:to < m) 
  (k:∀ w',Hp Z w0 w' (E142 x13 x11 x16 x12 g g2 m n go (zdu n to go hv met).2.1 (zdu n to go hv met).2.2 R)→K (.bool (zdu n to go hv met).1) w') :
  zaj Tryz.prog 142 #[.int .i64 (to:Int),.pointer (some ⟨x13,0,none⟩),.pointer (some ⟨x11,0,none⟩),.pointer (some ⟨x16,0,none⟩),.pointer (some ⟨x12,0,none⟩)] w K:=by
 refine call142 _ _ _ _ _ _ _ ?_
 unfold F142
 have key:∀ x w',zdu n to go hv met=x→Hp Z w0 w' (E142 x13 x11 x16 x12 g g2 m n go x.2.1 x.2.2 R)→K (.bool x.1) w':=fun x w' hx hb=>by subst hx;exact k w' hb
 have hgx:hv[to]? = some (hv[to]'(by omega)):=List.getElem?_eq_getElem (by omega)
 have hgm:met[to]? = some (met[to]'(by omega)):=List.getElem?_eq_getElem (by omega)
 have hd:hv.getD to (0,0)=hv[to]'(by omega):=by rw [List.getD_eq_getElem?_getD,hgx];rfl
 have hdm:met.getD to false=met[to]'(by omega):=by rw [List.getD_eq_getElem?_getD,hgm];rfl
 generalize hxx:hv[to]'(by omega)=x at *
 generalize hmm:met[to]'(by omega)=mb at *
 have c0:(zbk hv).toArray[to * 2]? = some (.int .i64 x.1):=by
  have:=spCells_get (j:=0) hgx (by decide)
  simpa using this
 have c1:(zbk hv).toArray[to * 2+1]? = some (.int .i64 x.2):=by
  have:=spCells_get (j:=1) hgx (by decide)
  simpa using this
 have cm:(zbr met).toArray[to * 1]? = some (.bool mb):=by
  rw [Nat.mul_one];simpa using bools_get hgm
 with_reducible repeat' first|refine kk_ ?_|refine nx hh ?_|refine allW fun w' hh=>?_|exact sd_|refine ai ?_ ?_|exact vr|fail
 refine ifD (fun h1=>?_) fun h1=>?_
 ·with_reducible repeat' first|refine kk_ ?_|refine nx hh ?_|refine allW fun w' hh=>?_|exact sd_|refine ai ?_ ?_|exact vr|fail
  refine zdo (z:=2) (by with_unfolding_all rfl) (by with_unfolding_all rfl) hto ?_
  repeat' first|(with_reducible first|refine kk_ ?_|refine nx hh ?_|refine allW fun w' hh=>?_|exact sd_|refine ldO (hh.own (b:=g) (cs:=(zbk hv).toArray) (t:=241) (by repeat (first|exact m0|apply mS))) c0 ?_|refine ldM (hh.own (b:=g) (cs:=(zbk hv).toArray) (t:=241) (by repeat (first|exact m0|apply mS))) c1 ?_|refine And.intro ?_ ?_|exact vr)|fail
  exact key _ _ (by rw [zdu,if_pos (by omega),hd]) hh
 ·with_reducible repeat' first|refine kk_ ?_|refine nx hh ?_|refine allW fun w' hh=>?_|exact sd_|refine ai ?_ ?_|exact vr|fail
  refine zdo (z:=1) (by with_unfolding_all rfl) (by with_unfolding_all rfl) hto ?_
  repeat' first|(with_reducible first|refine kk_ ?_|refine nx hh ?_|refine allW fun w' hh=>?_|exact sd_|refine ldO (hh.own (b:=g2) (cs:=(zbr met).toArray) (t:=4) (by repeat (first|exact m0|apply mS))) cm ?_|refine And.intro ?_ ?_|exact vr)|fail
  cases mb with
  | false =>
   refine zco ?_
   with_reducible repeat' first|refine kk_ ?_|refine nx hh ?_|refine allW fun w' hh=>?_|exact sd_|refine ai ?_ ?_|exact vr|fail
   refine zdo (z:=2) (by with_unfolding_all rfl) (by with_unfolding_all rfl) hto ?_
   refine kA ?_
   refine stMid (cs:=zbk hv) (vs:=[.int .i64 go.1,.int .i64 go.2]) (o:=to * 2) hh (by repeat (first|exact Pos.here|apply Pos.there)) (by simp [spCells_len];omega) (by with_unfolding_all rfl) rfl fun w1 hh _=>?_
   rw [spCells_put (by omega)] at hh
   with_reducible repeat' first|refine kk_ ?_|refine nx hh ?_|refine allW fun w' hh=>?_|exact sd_|refine ai ?_ ?_|exact vr|fail
   refine zdo (z:=1) (by with_unfolding_all rfl) (by with_unfolding_all rfl) hto ?_
   refine kA ?_
   first|rw [Nat.mul_one]|(dsimp only;rw [Nat.mul_one])
   refine stOne (cs:=zbr met) hh (by repeat (first|exact Pos.here|apply Pos.there)) (by rw [zcy];omega) (by with_unfolding_all rfl) rfl rfl fun w' hh _=>?_
   rw [bools_set] at hh
   exact key _ _ (by rw [zdu,if_neg (by omega),if_pos hdm]) hh
  | true =>
   refine zcj ?_
   with_reducible repeat' first|refine kk_ ?_|refine nx hh ?_|refine allW fun w' hh=>?_|exact sd_|refine ai ?_ ?_|exact vr|fail
   refine zdo (z:=2) (by with_unfolding_all rfl) (by with_unfolding_all rfl) hto ?_
   repeat' first|(with_reducible first|refine kk_ ?_|refine nx hh ?_|refine allW fun w' hh=>?_|exact sd_|refine ldO (hh.own (b:=g) (cs:=(zbk hv).toArray) (t:=241) (by repeat (first|exact m0|apply mS))) c0 ?_|refine And.intro ?_ ?_|exact vr)|fail
   refine zdo (z:=2) (by with_unfolding_all rfl) (by with_unfolding_all rfl) hto ?_
   repeat' first|(with_reducible first|refine kk_ ?_|refine nx hh ?_|refine allW fun w' hh=>?_|exact sd_|refine ldM (hh.own (b:=g) (cs:=(zbk hv).toArray) (t:=241) (by repeat (first|exact m0|apply mS))) c1 ?_|refine And.intro ?_ ?_|exact vr)|fail
   refine zdo (z:=2) (by with_unfolding_all rfl) (by with_unfolding_all rfl) hto ?_
   refine kA ?_
   refine stMid (cs:=zbk hv) (vs:=[.int .i64 (if go.1 < x.1 then go.1 else x.1),.int .i64 (if go.2 > x.2 then go.2 else x.2)]) (o:=to * 2) hh (by repeat (first|exact Pos.here|apply Pos.there)) (by simp [spCells_len];omega) (by with_unfolding_all rfl) rfl fun w1 hh _=>?_
   rw [spCells_put (x:=(if go.1 < x.1 then go.1 else x.1,if go.2 > x.2 then go.2 else x.2)) (by omega)] at hh
   exact key _ _ (by rw [zdu,if_neg (by omega),if_neg (by rw [hdm];decide),hd]) hh
end
open Go Go.RowKit Go.Proofs.YtlfhngoeecjfpaaGreatDoor.Sh Go.Proofs.YtlfhngoeecjfpaaGreatDoor.W Go.MapKept
section
variable {P:Program} {w:World} {t kt et mb c:Nat} {E:List E3}
theorem lookupI0 {k:Int} {F:Value→World→Prop} (h:IMap w mb E c) (ht:P.underlying t=some (.map kt et)) (hk:P.underlying kt=some (.int .i64)) (kk:F (.int .i64 ((lkE E k).getD 0)) w)
  (hz:∀ w,(zeroValue et).run P w = .ok (.int .i64 0) w):semK P (Instr.lookup t (.map (some mb)) (.int .i64 k) false) w F:=by
 refine zcd ?_ kk
 have hf:=MapKept.run_findKey (P:=P) (w:=w) hk (findNow_eq k E 0)
 have hp:=pos_look k E 0
 simp only [Instr.lookup,Sem.run_bind,run_underlying ht,Result.andThen_ok,MapKept.run_getObj_map h.heap,Sem.run_pure,MapKept.run_checkKey hk (show IsKey (.int .i64) (.int .i64 k) from rfl)]
 rw [hf]
 simp only [Result.andThen_ok]
 cases hq:posE E k 0 with
 | none =>
  rw [hq] at hp
  cases hl:lkE E k with
  | none=>simp [Sem.run_bind,hz,Result.andThen]
  | some v=>rw [hl] at hp;cases hp
 | some y =>
  obtain ⟨i,u⟩:=y
  rw [hq] at hp
  cases hl:lkE E k with
  | none=>rw [hl] at hp;cases hp
  | some v =>
   rw [hl] at hp
   simp only [Option.map_some,Option.some.injEq] at hp
   subst hp
   simp [Sem.run_bind,Result.andThen]
variable {Z:Nat→Prop} {w0:World} {L:List Ent} {M:Nat→List Ent}
theorem wMapSet {k v:Int} {F:World→Prop} (h:Hp Z w0 w L) (hm:∀ c',Pos L (.imap mb E c) (.imap mb (updE E k v c) c') (M c')) (ht:P.underlying t=some (.map kt et)) (hk:P.underlying kt=some (.int .i64))
  (kk:∀ c' w',Hp Z w0 w' (M c')→F w'):semU P (Instr.mapUpdate t (.map (some mb)) (.int .i64 k) (.int .i64 v)) w F:=by
 have hi:IMap w mb E c:=h.all (.imap mb E c) (hm 0).mem
 exact setI hi ht hk fun w' c' h1 h2=>kk c' w' (h.turn (hm c') h2 h1 fun i hi=>.inl hi)
theorem allocMap {F:World→Prop} (h:Hp Z w0 w L) (k:∀ w',Hp Z w0 w' (.imap w.heap.size [] 0::L)→Bl w w'→F w'):zaf w (.map #[] 0) F :=
 k _ (h.add ((Bl.refl w).alloc _) (IMap.new w) fun i hi=>Nat.le_of_eq hi.symm) ((Bl.refl w).alloc _)
end
theorem marks0 {w:World} {F:World→Prop} (h:F w):zcx [] w F:=h
def placeR:List Ins→Int→Option Nat
 | [],_=>none
 | i::r,t=>if t=i.at_ then some r.length else placeR r t
def zbz (d:List Ins) (t:Int):Option Nat:=placeR d.reverse t
theorem placeT_app (d:List Ins) (i:Ins) (t:Int):zbz (d++[i]) t=if t=i.at_ then some d.length else zbz d t:=by
 simp [zbz,placeR]
def PlOK (E:List E3) (d:List Ins):Prop:=∀ t,lkE E t=(zbz d t).map fun k=>(k:Int)
theorem PlOK.add {E:List E3} {d:List Ins} (h:PlOK E d) (i:Ins) (c:Nat):PlOK (updE E i.at_ (d.length:Int) c) (d++[i]):=fun t=>by
 rw [lkE_upd,placeT_app,h t]
 split <;> rfl
def zcw (ts:List Ty) (s:Int) (l:List UInt8):Option (Ty × List Ins) :=
 if s < 0 then none else if s ≥ ts.length then none else
 if (ts.all fun t=>decide (TyOK t))=false then none else
 if (checkT l).1≠0 then none else
 if ((allT l).all fun i=>namedP ts (ts.getD s.toNat ⟨0,0,0⟩) i)=true then some (ts.getD s.toNat ⟨0,0,0⟩,allT l) else none
structure PassAt (w:World) (pb:Nat) (th:Hd) (own:Ty) (d:List Ins) (lh:Hd) (ib:List (Ins × Nat)) (mb:Nat) (E:List E3) (c:Nat):Prop where
 pass:Own w pb (passC th own lh.v (.map (some mb))) 239
 list:InsL w lh.p lh.n lh.c ib
 place:IMap w mb E c
 ibd:ib.map (·.1)=d
 plc:PlOK E d
abbrev L138 (x12 pb mb B b n:Nat) (l:List UInt8) (th:Hd) (own:Ty) (d:List Ins) (s:List (Ins × Nat) × Option Addr × Nat × List E3 × Nat):List Ent :=
 [pureE (s.1.map (·.1)=d∧PlOK s.2.2.2.1 d),insF s.1,.row 4 s.2.1 s.1.length s.2.2.1 70 (zbx s.1),.own B #[.slice (some ⟨b,0,none⟩) n n] 22,.own b (u8s l).toArray 5,.own x12 #[.pointer (some ⟨pb,0,none⟩)] 234,.own pb (passC th own (.slice s.2.1 s.1.length s.2.2.1) (.map (some mb))) 239,.imap mb s.2.2.2.1 s.2.2.2.2]
def noV:Value:=.tuple #[.pointer none,.bool false]
section
variable {w0:World} {K:Value→World→Prop} {th:Hd} {ts:List Ty} {l:List UInt8} {s:Int} {p:Option Addr} {n c:Nat}
theorem j138_1 {w:World} {x6:Option Addr} {x7:Bool} (hb0:Bl w0 w) (hty:Sees w 3 th.p th.n th.c (zat ts)) (hs:Sees w 1 p n c (u8s l)) (hln:l.length≤1000000000) (h0:0≤s) (h1:s < ts.length) (hok:(ts.all fun t=>decide (TyOK t))=true)
  (ke:zcw ts s l=none→∀ w',Bl w0 w'→K noV w') (ko:∀ own d,zcw ts s l=some (own,d)→∀ pb lh ib mb E c w',Bl w0 w'→PassAt w' pb th own d lh ib mb E c→K (.tuple #[.pointer (some ⟨pb,0,none⟩),.bool true]) w') :
  J138_1 K th.p th.n th.c s p n c x6 x7 [] w:=by
 have hR:zcw ts s l=if (checkT l).1≠0 then none else if ((allT l).all fun i=>namedP ts (ts.getD s.toNat ⟨0,0,0⟩) i)=true then some (ts.getD s.toNat ⟨0,0,0⟩,allT l) else none:=by
  rw [zcw,if_neg (by omega),if_neg (by omega),if_neg (by rw [hok];decide)]
 have htn:th.n=ts.length:=by have:=hty.len;rw [zbw] at this;omega
 have hn:=hs.bytes
 unfold J138_1
 refine f157 hs hln fun w1 hb1=>?_
 have hh:=Hp.start w1
 with_reducible repeat' first|refine kk_ ?_|refine nx hh ?_|refine allW fun w' hh=>?_|exact sd_|refine ai ?_ ?_|exact vr|fail
 refine ifNe (fun h2=>?_) fun h2=>?_
 ·exact marks0 (ke (by rw [hR,if_pos h2]) _ (hb0.trans hb1))
 rw [if_neg (by omega)] at hR
 refine rdTy (hty.bl hb1) (by with_unfolding_all rfl) (by with_unfolding_all rfl) (by omega) (by omega) fun t ad ht c0 c1 c2=>?_
 have hget:ts.getD s.toNat ⟨0,0,0⟩=t:=by rw [List.getD_eq_getElem?_getD,ht];rfl
 rw [hget] at hR
 repeat' first|(with_reducible first|refine kk_ ?_|refine nx hh ?_|refine allW fun w' hh=>?_|exact sd_|refine ld c0 ?_|refine ld c1 ?_|refine ld c2 ?_|refine And.intro ?_ ?_|exact vr)|fail
 with_reducible refine allocMap hh fun w2 hh _=>?_
 with_reducible refine zci hh fun w3 hh _=>?_
 with_reducible refine zci hh fun w4 hh _=>?_
 with_reducible repeat' first|refine kk_ ?_|refine nx hh ?_|refine allW fun w' hh=>?_|exact sd_|refine ai ?_ ?_|exact vr|fail
 generalize w1.heap.size=mb at hh ⊢
 generalize w2.heap.size=pb at hh ⊢
 generalize w3.heap.size=x12 at hh ⊢
 refine f75H hh ((hs.bl hb1).bl hh.done) (by omega) fun B b w6 hh=>?_
 replace hh:=hh.rowNil 4 70
 replace hh:=hh.know (x:=insF []) (immS_on fun x hx=>by cases hx) (fun k hk=>hk) fun y hy k hk ⟨x,hx,_⟩=>by cases hx
 replace hh:=hh.pureI (p:=([]:List (Ins × Nat)).map (·.1)=[]∧PlOK [] []) ⟨rfl,fun t=>rfl⟩
 refine rangeAll (B:=B) (b:=b) (by omega) hn (L138 x12 pb mb B b n l th t) (fun _ _=>[]) (fun _ _ _ _=>False) (fun d s=>⟨by simp,by simp⟩) (s0:=([],none,0,[],0)) hh ?_ ?_ ?_
 ·intro lz mk r d i rest s w bi m hall hm hfr hh
  obtain ⟨hd,hpl⟩:=hh.pureO (p:=s.1.map (·.1)=d∧PlOK s.2.2.2.1 d) (by simp)
  have hl:=zdm l
  rw [hall] at hl
  simp only [List.length_append,List.length_cons] at hl
  have hsl:s.1.length=d.length:=by rw [← hd];simp
  unfold B138_6 insV
  repeat' first|(with_reducible first|refine kk_ ?_|refine nx hh ?_|refine allW fun w' hh=>?_|exact sd_|refine wReady hh rfl ?_|refine wPut hh fun w' hh=>?_|refine And.intro ?_ ?_|exact vr)|fail
  refine wMapSet hh (fun c'=>(by repeat (first|exact Pos.here|apply Pos.there))) (by with_unfolding_all rfl) (by with_unfolding_all rfl) fun cm w5 hh=>?_
  repeat' first|(with_reducible first|refine kk_ ?_|refine nx hh ?_|refine allW fun w' hh=>?_|exact sd_)|((with_reducible refine appH hh (by with_unfolding_all rfl) (by with_unfolding_all rfl) (by with_unfolding_all rfl) (by with_unfolding_all rfl) (by with_unfolding_all rfl) (by with_unfolding_all rfl) (by with_unfolding_all rfl) (by omega) (by with_unfolding_all rfl) fun g cap w4 hh=>?_);(replace hh:=hpTail hh))|(with_reducible first|refine wStop hh rfl fun w' hh=>?_|refine And.intro ?_ ?_|exact vr)|fail
  refine .inl ⟨rfl,(s.1++[(i,bi)],some ⟨g,0,none⟩,cap,updE s.2.2.2.1 i.at_ (s.1.length:Int) s.2.2.2.2,cm),?_⟩
  replace hh:=hpTail hh
  replace hh:=Hp.insAdd (i:=i) hh hm (by repeat (first|exact Pos.here|apply Pos.there))
  subst hm
  have hpl2:=hpl.add i s.2.2.2.2
  have h9:=Hp.less hh (x:=pureE (s.1.map (·.1)=d∧PlOK s.2.2.2.1 d)) (y:=pureE ((s.1++[(i,bi)]).map (·.1)=d++[i]∧PlOK (updE s.2.2.2.1 i.at_ (s.1.length:Int) s.2.2.2.2) (d++[i]))) (by repeat (first|exact Pos.here|apply Pos.there)) ⟨⟨by rw [List.map_append,hd];rfl,by rw [hsl];exact hpl2⟩,fun k hk=>hk.elim,fun _ _ h _=>h⟩ (fun k hk=>hk) (fun k hk=>hk)
  unfold rngE L138
  simp only [insCells_app,List.length_append,List.length_singleton]
  exact h9
 ·intro lz mk r s w7 hh
  obtain ⟨hd,hpl⟩:=hh.pureO (p:=s.1.map (·.1)=allT l∧PlOK s.2.2.2.1 (allT l)) (by simp)
  refine jumpN ?_
  have hl:=zdm l
  have hsl:s.1.length=(allT l).length:=by rw [← hd];simp
  have hall2:((allT l).all fun i=>namedP ts t i)=s.1.all fun x=>namedP ts t x.1:=by rw [← hd,List.all_map];rfl
  unfold J138_5
  with_reducible repeat' first|refine kk_ ?_|refine nx hh ?_|refine allW fun w' hh=>?_|exact sd_|refine ai ?_ ?_|exact vr|fail
  refine ⟨s.1.length+1,?_⟩
  have loop:∀ (m i:Nat) (w:World),i+m=s.1.length→(s.1.take i).all (fun x=>namedP ts t x.1)=true→Hp zan w1 w (rngE lz mk r .exhausted none (L138 x12 pb mb B b n l th t (allT l) s))→L138_8 K (m+1) ⟨x12,0,none⟩ s.2.1 s.1.length s.2.2.1 (s.1.length:Int) (i:Int) ([{ target:=.collected mk,args:=#[] }]++[]) w:=by
   clear hh
   intro m
   induction m with
   | zero =>
    intro i w hi hq hh
    unfold L138_8
    refine ifD (fun h=>by omega) fun _=>?_
    unfold J138_7
    rw [List.take_of_length_le (by omega)] at hq
    repeat' first|(with_reducible first|refine kk_ ?_|refine nx hh ?_|refine allW fun w' hh=>?_|exact sd_|refine wMarkN hh rfl fun w' hh=>?_|refine And.intro ?_ ?_|exact vr)|fail
    refine ko t (allT l) (by rw [hR,hall2,if_pos hq]) _ ⟨s.2.1,s.1.length,s.2.2.1⟩ s.1 _ s.2.2.2.1 s.2.2.2.2 _ ((hb0.trans hb1).trans hh.done) ⟨hh.own (by repeat (first|exact m0|apply mS)),⟨rfl,(hh.row (z:=4) (p:=s.2.1) (n:=s.1.length) (c:=s.2.2.1) (e:=70) (xs:=zbx s.1) (by repeat (first|exact m0|apply mS))).sees,?_⟩,(hh.all (.imap mb s.2.2.2.1 s.2.2.2.2) (by repeat (first|exact m0|apply mS))),hd,hpl⟩
    exact (hh.on (S:=fun k=>∃ y∈s.1,0 < y.1.imm.length∧k=y.2) (A:=fun w=>ImmS w s.1) (by repeat (first|exact m0|apply mS))).holds
   | succ m ih =>
    intro i w hi hq hh
    unfold L138_8
    refine ifD (fun _=>?_) fun h=>by omega
    have hil:InsL w s.2.1 s.1.length s.2.2.1 s.1:=⟨rfl,(hh.row (z:=4) (p:=s.2.1) (n:=s.1.length) (c:=s.2.2.1) (e:=70) (xs:=zbx s.1) (by repeat (first|exact m0|apply mS))).sees,(hh.on (S:=fun k=>∃ y∈s.1,0 < y.1.imm.length∧k=y.2) (A:=fun w=>ImmS w s.1) (by repeat (first|exact m0|apply mS))).holds⟩
    refine rdIns hil (by with_unfolding_all rfl) (by with_unfolding_all rfl) (by omega) (by omega) fun x ad hx d0 d1 d2 d3 hsee=>?_
    simp only [Int.toNat_natCast] at hx
    obtain ⟨a,ha⟩:=allT_mem (l:=l) (i:=x.1) (by rw [← hd];exact List.mem_map_of_mem (List.mem_of_getElem? hx))
    have hok2:=zdb ha
    repeat' first|(with_reducible first|refine kk_ ?_|refine nx hh ?_|refine allW fun w' hh=>?_|exact sd_|refine ld d0 ?_|refine ld d1 ?_|refine ld d2 ?_|refine ld d3 ?_|refine And.intro ?_ ?_|exact vr)|fail
    have hsee2:=(hh.on (S:=fun k=>∃ y∈s.1,0 < y.1.imm.length∧k=y.2) (A:=fun w=>ImmS w s.1) (by repeat (first|exact m0|apply mS))).holds x (List.mem_of_getElem? hx)
    refine f158 (hh.own (by repeat (first|exact m0|apply mS))) ((hty.bl hb1).bl hh.done) hsee2 (by omega) (by omega) (by omega) fun w4 hb4=>?_
    replace hh:=hh.bl hb4
    have htk:(s.1.take (i+1)).all (fun x=>namedP ts t x.1)=namedP ts t x.1:=by
     rw [List.take_add_one,hx,List.all_append,hq];simp
    refine kB ?_
    cases hnp:namedP ts t x.1 with
    | false =>
     refine zco ?_
     repeat' first|(with_reducible first|refine kk_ ?_|refine nx hh ?_|refine allW fun w' hh=>?_|exact sd_|refine wMarkN hh rfl fun w' hh=>?_|refine And.intro ?_ ?_|exact vr)|fail
     refine ke ?_ _ ((hb0.trans hb1).trans hh.done)
     first|rw [hR,hall2,if_neg]|(dsimp only;rw [hR,hall2,if_neg])
     intro hall
     rw [List.all_eq_true] at hall
     have:=hall x (List.mem_of_getElem? hx)
     rw [hnp] at this;cases this
    | true =>
     refine zcj ?_
     rw [i64w (by omega) (by omega)]
     exact_mod_cast ih (i+1) _ (by omega) (by rw [htk,hnp]) (hh.sublist (by repeat (first|exact List.Sublist.refl _|apply List.Sublist.cons)))
  exact_mod_cast loop s.1.length 0 _ (by omega) rfl hh
 ·intro lz mk r d i rest s pe w' _ h
  exact h.elim
theorem f138 {w:World} (hty:Sees w 3 th.p th.n th.c (zat ts)) (htl:th.n≤1000000000) (hs:Sees w 1 p n c (u8s l)) (hln:l.length≤1000000000)
  (ke:zcw ts s l=none→∀ w',Bl w w'→K noV w') (ko:∀ own d,zcw ts s l=some (own,d)→∀ pb lh ib mb E c w',Bl w w'→PassAt w' pb th own d lh ib mb E c→K (.tuple #[.pointer (some ⟨pb,0,none⟩),.bool true]) w') :
  zaj Tryz.prog 138 #[th.v,.int .i64 s,.slice p n c] w K:=by
 refine call138 _ _ _ _ _ _ _ _ _ ?_
 unfold F138
 have htn:th.n=ts.length:=by have:=hty.len;rw [zbw] at this;omega
 refine ifD (fun h=>ke (by rw [zcw,if_pos h]) _ (Bl.refl w)) fun h0=>ifD (fun h=>ke (by rw [zcw,if_neg h0,if_pos (by omega)]) _ (Bl.refl w)) fun h1=>?_
 unfold J138_0
 have bad:(ts.all fun t=>decide (TyOK t))=false→zcw ts s l=none:=fun h=>by rw [zcw,if_neg h0,if_neg (by omega),if_pos h]
 have loop:∀ (m i:Nat) (w1:World),i+m=th.n→(ts.take i).all (fun t=>decide (TyOK t))=true→Bl w w1→L138_2 K (m+1) th.p th.n th.c s p n c none false th.p th.n th.c (th.n:Int) (i:Int) [] w1:=by
  intro m
  induction m with
  | zero =>
   intro i w1 hi hq hb
   unfold L138_2
   refine ifD (fun h=>by omega) fun _=>?_
   rw [List.take_of_length_le (by omega)] at hq
   exact j138_1 hb (hty.bl hb) (hs.bl hb) hln (by omega) (by omega) hq ke ko
  | succ m ih =>
   intro i w1 hi hq hb
   unfold L138_2
   refine ifD (fun _=>?_) fun h=>by omega
   refine rdTy (hty.bl hb) (by with_unfolding_all rfl) (by with_unfolding_all rfl) (by omega) (by omega) fun t ad ht c0 c1 c2=>?_
   simp only [Int.toNat_natCast] at ht
   have hh:=Hp.start w1
   have htk:(ts.take (i+1)).all (fun t=>decide (TyOK t))=decide (TyOK t):=by
    rw [List.take_add_one,ht,List.all_append,hq];simp
   have J4:∀ (b:Bool) {w'},(b=true→¬ TyOK t)→(b=false→TyOK t)→Bl w1 w'→J138_4 K (L138_2 K (m+1)) th.p th.n th.c s p n c none false th.p th.n th.c (th.n:Int) (i:Int) b [] w':=by
    intro b w' h1 h2 hb'
    unfold J138_4
    cases b with
    | true =>
     refine ifBt (marks0 (ke (bad ?_) _ (hb.trans hb')))
     rw [List.all_eq_false]
     exact ⟨t,List.mem_of_getElem? ht,by simpa using h1 rfl⟩
    | false =>
     refine ifBf ?_
     unfold J138_3
     rw [i64w (by omega) (by omega)]
     exact_mod_cast ih (i+1) w' (by omega) (by rw [htk];simpa using h2 rfl) (hb.trans hb')
   repeat' first|(with_reducible first|refine kk_ ?_|refine nx hh ?_|refine allW fun w' hh=>?_|exact sd_|refine ld c0 ?_|refine ld c1 ?_|refine ld c2 ?_|refine ifD (fun hc=>?_) (fun hc=>?_)|refine And.intro ?_ ?_|exact vr)|fail
   all_goals refine J4 _ ?_ ?_ hh.done
   all_goals unfold TyOK
   all_goals simp
   all_goals omega
 exact ⟨th.n+1,by exact_mod_cast loop th.n 0 w (by omega) rfl (Bl.refl w)⟩
end
open Go Go.RowKit Go.Proofs.YtlfhngoeecjfpaaGreatDoor.Sh Go.Proofs.YtlfhngoeecjfpaaGreatDoor.W
def zde (c:Int):Bool:=match opT c with|some r=>r.ends|none=>false
def zce (d:List Ins) (n:Nat) (go:Int × Int):List Int→List (Int × Int)→List Bool→Bool × List (Int × Int) × List Bool
 | [],hv,met=>(true,hv,met)
 | t::ts,hv,met =>
  if (zdu n ((zbz d t).getD 0) go hv met).1=true then zce d n go ts (zdu n ((zbz d t).getD 0) go hv met).2.1 (zdu n ((zbz d t).getD 0) go hv met).2.2
  else (false,(zdu n ((zbz d t).getD 0) go hv met).2.1,(zdu n ((zbz d t).getD 0) go hv met).2.2)
def goT (ts:List Ty) (own:Ty) (i:Ins) (h:Int × Int):Int × Int:=(h.1 - (zbe ts own i).1+(zbe ts own i).2,h.2 - (zbe ts own i).1+(zbe ts own i).2)
def zdj (i:Ins) (n:Nat) (go:Int × Int) (hv:List (Int × Int)) (met:List Bool):List (Int × Int) × List Bool :=
 if zde i.code=true then (hv,met) else (zdu n (n+1) go hv met).2
def hGo (ts:List Ty) (own:Ty) (d:List Ins):List Ins→Nat→List (Int × Int)→List Bool→Except (Int × Int) (List (Int × Int))
 | [],_,hv,_=>.ok hv
 | i::r,n,hv,met =>
  if met.getD n false=false then .error (73,i.at_) else
  if wrongT ts own i (hv.getD n (0,0)).1 (hv.getD n (0,0)).2≠0 then .error (wrongT ts own i (hv.getD n (0,0)).1 (hv.getD n (0,0)).2,i.at_) else
  if (zce d n (goT ts own i (hv.getD n (0,0))) (zas i) (zdj i n (goT ts own i (hv.getD n (0,0))) hv met).1 (zdj i n (goT ts own i (hv.getD n (0,0))) hv met).2).1=true then
   hGo ts own d r (n+1) (zce d n (goT ts own i (hv.getD n (0,0))) (zas i) (zdj i n (goT ts own i (hv.getD n (0,0))) hv met).1 (zdj i n (goT ts own i (hv.getD n (0,0))) hv met).2).2.1
    (zce d n (goT ts own i (hv.getD n (0,0))) (zas i) (zdj i n (goT ts own i (hv.getD n (0,0))) hv met).1 (zdj i n (goT ts own i (hv.getD n (0,0))) hv met).2).2.2
  else .error (72,i.at_)
def htsT (d:List Ins) (hv:List (Int × Int)):List Ty:=List.zipWith (fun i h=>(⟨i.at_,h.1,h.2⟩:Ty)) d hv
def zbb (ts:List Ty) (s:Int) (l:List UInt8):Except (Int × Int) (List Ty) :=
 match zcw ts s l with
 | none=>.error (1,0)
 | some (own,d) =>
  match hGo ts own d d 0 ((List.replicate d.length (0,0)).set 0 (own.inn,own.inn)) ((List.replicate d.length false).set 0 true) with
  | .error x=>.error x
  | .ok hv=>.ok (htsT d hv)
structure RightP (ts:List Ty) (own:Ty) (d:List Ins):Prop where
 tys:∀ t∈ts,TyOK t
 own_:TyOK own
 ne:d≠[]
 ins:∀ i∈d,0≤i.code∧i.code < 256∧i.imm.length≤600∧(i.code=227∨i.code=229→(zae i).1 < ts.length)
 leads:∀ i∈d,∀ t∈zas i,∃ k,zbz d t=some k∧k < d.length
 last:∀ n i,d[n]? = some i→zde i.code=false→n+1 < d.length
theorem placeR_mem:∀ (r:List Ins) (t:Int),(∃ i∈r,i.at_=t)→∃ k,placeR r t=some k∧k < r.length
 | [],t,⟨i,h,_⟩=>by cases h
 | j::r,t,⟨i,hi,he⟩=>by
  unfold placeR
  by_cases h:t=j.at_
  ·rw [if_pos h];exact ⟨_,rfl,by simp⟩
  ·rw [if_neg h]
   rcases List.mem_cons.1 hi with h1|h1
   ·subst h1;exact absurd he.symm h
   ·obtain ⟨k,h2,h3⟩:=placeR_mem r t ⟨i,h1,he⟩
    exact ⟨k,h2,by simp;omega⟩
theorem placeT_mem {d:List Ins} {t:Int} (h:∃ i∈d,i.at_=t):∃ k,zbz d t=some k∧k < d.length:=by
 obtain ⟨i,hi,he⟩:=h
 obtain ⟨k,h1,h2⟩:=placeR_mem d.reverse t ⟨i,by simpa using hi,he⟩
 exact ⟨k,h1,by simpa using h2⟩
theorem startsF_true:∀ (d:List Ins) (acc:List Bool) (k:Nat),(d.foldl (fun acc i=>acc.set i.at_.toNat true) acc).getD k false=true→acc.getD k false=true∨∃ i∈d,i.at_.toNat=k
 | [],acc,k,h=>.inl h
 | i::d,acc,k,h=>by
  rcases startsF_true d _ k h with h1|⟨j,hj,he⟩
  ·by_cases hk:i.at_.toNat=k
   ·exact .inr ⟨i,List.mem_cons_self,hk⟩
   ·rw [List.getD_eq_getElem?_getD,List.getElem?_set_ne hk,← List.getD_eq_getElem?_getD] at h1
    exact .inl h1
  ·exact .inr ⟨j,List.mem_cons_of_mem _ hj,he⟩
theorem badFirst_none {n:Nat} {st:List Bool}:∀ {d:List Ins},zcg n st d=none→∀ i∈d,badL n st (zas i)=false
 | [],_,i,h=>by cases h
 | j::d,h,i,hi=>by
  unfold zcg at h
  split at h
  ·cases h
  ·rename_i hb
   rcases List.mem_cons.1 hi with h1|h1
   ·subst h1;simpa using hb
   ·exact badFirst_none h i h1
theorem scanT_ok {l:List UInt8} {d:List Ins} (h:zdz l = .ok d):d=allT l∧d≠[]∧∃ i,d.getLast? = some i∧zde i.code=true:=by
 unfold zdz at h
 split at h
 ·cases h
 split at h
 ·cases h
 rename_i h1 h2
 have h:(if zde (match (allT l).getLast? with|some i=>i.code|none=>0)=true then (Except.ok (allT l):Except (Int × Int) (List Ins)) else .error (62,lastT (allT l))) = .ok d:=h
 by_cases h3:zde (match (allT l).getLast? with|some i=>i.code|none=>0)=true
 ·rw [if_pos h3] at h
  cases h
  cases hg:(allT l).getLast? with
  | none=>rw [List.getLast?_eq_none_iff] at hg;exact absurd hg h2
  | some i =>
   rw [hg] at h3
   exact ⟨rfl,h2,i,rfl,h3⟩
 ·rw [if_neg h3] at h;cases h
theorem allT_props {l:List UInt8} {i:Ins} (h:i∈allT l):0≤i.at_∧i.at_ < l.length∧0≤i.code∧i.code < 256∧i.imm.length≤600:=by
 obtain ⟨a,ha⟩:=allT_mem h
 have:=zdb ha
 omega
theorem rightP {ts:List Ty} {s:Int} {l:List UInt8} {own:Ty} {d:List Ins} (h:zcw ts s l=some (own,d)):RightP ts own d∧d=allT l:=by
 unfold zcw at h
 split at h
 ·cases h
 split at h
 ·cases h
 split at h
 ·cases h
 split at h
 ·cases h
 split at h
 ·rename_i h1 h2 h3 h4 h5
  simp only [Option.some.injEq,Prod.mk.injEq] at h
  obtain ⟨rfl,rfl⟩:=h
  have h3':∀ t∈ts,TyOK t:=by
   have:(ts.all fun t=>decide (TyOK t))=true:=by simpa using h3
   rw [List.all_eq_true] at this
   intro t ht
   simpa using this t ht
  have h4':(checkT l).1=0:=by simpa using h4
  unfold checkT at h4'
  cases hs:zdz l with
  | error x =>
   rw [hs] at h4'
   simp only at h4'
   have:=scanT_err (l:=l) (e:=x.1) (a:=x.2) hs
   rw [h4'] at this;cases this
  | ok d =>
   rw [hs] at h4'
   simp only at h4'
   obtain ⟨rfl,hne,il,hil,hie⟩:=scanT_ok hs
   unfold badR at h4'
   cases hb:zcg l.length (zbj l) (allT l) with
   | some i=>rw [hb] at h4';cases h4'
   | none =>
    have hbad:=badFirst_none hb
    rw [List.all_eq_true] at h5
    refine ⟨⟨h3',?_,hne,fun i hi=>?_,fun i hi t ht=>?_,fun n i hn he=>?_⟩,rfl⟩
    ·rw [List.getD_eq_getElem?_getD]
     cases hg:ts[s.toNat]? with
     | none=>exact by decide
     | some t=>exact h3' t (List.mem_of_getElem? hg)
    ·have hp:=allT_props hi
     refine ⟨hp.2.2.1,hp.2.2.2.1,hp.2.2.2.2,fun hc=>?_⟩
     have h6:=h5 i hi
     unfold namedP at h6
     rw [if_neg (by omega),if_neg (by omega)] at h6
     split at h6
     ·cases h6
     ·omega
    ·have h6:=hbad i hi
     unfold badL at h6
     rw [List.any_eq_false] at h6
     have h7:=h6 t ht
     simp only [Bool.or_eq_true,decide_eq_true_eq,Bool.not_eq_true',not_or] at h7
     obtain ⟨⟨h8,h9⟩,h10⟩:=h7
     have h10':(zbj l).getD t.toNat false=true:=by simpa using h10
     unfold zbj startsF at h10'
     rcases startsF_true _ _ _ h10' with h11|⟨j,hj,he⟩
     ·rw [List.getD_eq_getElem?_getD] at h11
      cases hg:(List.replicate l.length false)[t.toNat]? with
      | none=>rw [hg] at h11;cases h11
      | some b =>
       rw [hg] at h11
       have:=List.mem_of_getElem? hg
       rw [List.mem_replicate] at this
       rw [this.2] at h11;cases h11
     ·have:=(allT_props hj).1
      exact placeT_mem ⟨j,hj,by omega⟩
    ·have hlt:=(List.getElem?_eq_some_iff.1 hn).1
     by_cases hlast:n+1 < (allT l).length
     ·exact hlast
     ·exfalso
      rw [List.getLast?_eq_getElem?,show (allT l).length - 1=n by omega,hn] at hil
      cases hil
      rw [he] at hie;cases hie
 ·cases h
def SpOK (x:Int × Int):Prop:=0≤x.1∧x.1≤x.2∧x.2≤1023
structure HvOK (m:Nat) (hv:List (Int × Int)) (met:List Bool):Prop where
 hl:hv.length=m
 ml:met.length=m
 sp:∀ x∈hv,SpOK x
theorem getD_ok {hv:List (Int × Int)} (h:∀ x∈hv,SpOK x) (n:Nat):SpOK (hv.getD n (0,0)):=by
 rw [List.getD_eq_getElem?_getD]
 cases hg:hv[n]? with
 | none=>exact ⟨by decide,by decide,by decide⟩
 | some x=>exact h x (List.mem_of_getElem? hg)
theorem HvOK.pass {m n to:Nat} {go:Int × Int} {hv:List (Int × Int)} {met:List Bool} (h:HvOK m hv met) (hg:SpOK go):HvOK m (zdu n to go hv met).2.1 (zdu n to go hv met).2.2:=by
 have hx:=getD_ok h.sp to
 unfold zdu
 split
 ·exact h
 split
 ·refine ⟨by simp [h.hl],by simp [h.ml],fun x hx=>?_⟩
  rcases List.mem_or_eq_of_mem_set hx with h1|h1
  ·exact h.sp x h1
  ·subst h1;exact hg
 ·refine ⟨by simp [h.hl],h.ml,fun x hx'=>?_⟩
  rcases List.mem_or_eq_of_mem_set hx' with h1|h1
  ·exact h.sp x h1
  ·subst h1
   unfold SpOK at *
   simp only
   repeat' split
   all_goals omega
theorem leads_ends {i:Ins} (h:i.code=228∨i.code=229):zas i=[]∧zde i.code=true:=by
 constructor
 ·unfold zas
  repeat' split
  all_goals first|rfl|omega
 ·rcases h with h|h <;> (rw [h];rfl)
theorem goT_ok {ts:List Ty} {own:Ty} {i:Ins} {h:Int × Int} (hr:∀ t∈ts,TyOK t) (ho:TyOK own) (h0:0≤i.code) (h1:i.code < 256) (hs:SpOK h) (hw:wrongT ts own i h.1 h.2=0) (hc:¬ (i.code=228∨i.code=229)):SpOK (goT ts own i h):=by
 have ht:=turnsT_lt hr ho h0 h1 (i:=i)
 unfold wrongT at hw
 unfold SpOK at *
 unfold goT
 rw [if_neg (by omega)] at hw
 split at hw
 ·omega
 split at hw
 ·omega
 rw [if_neg (by omega)] at hw
 split at hw
 ·omega
 simp only
 omega
theorem HvOK.next {m n:Nat} {i:Ins} {go:Int × Int} {hv:List (Int × Int)} {met:List Bool} (h:HvOK m hv met) (hg:zde i.code=false→SpOK go):HvOK m (zdj i n go hv met).1 (zdj i n go hv met).2:=by
 unfold zdj
 split
 ·exact h
 ·rename_i he
  exact h.pass (hg (by simpa using he))
theorem HvOK.leads {m n:Nat} {d:List Ins} {go:Int × Int}:∀ {ts:List Int} {hv:List (Int × Int)} {met:List Bool},HvOK m hv met→(ts≠[]→SpOK go)→HvOK m (zce d n go ts hv met).2.1 (zce d n go ts hv met).2.2
 | [],hv,met,h,hg=>h
 | t::ts,hv,met,h,hg=>by
  have h2:=h.pass (n:=n) (to:=(zbz d t).getD 0) (hg (by simp))
  unfold zce
  split
  ·exact HvOK.leads h2 fun _=>hg (by simp)
  ·exact h2
section
variable {w0 w:World} {K:Value→World→Prop} {x13 x11 x16 x12 x14 g g2 m n:Nat} {go:Int × Int} {R:List Ent} {pb:Nat} {th:Hd} {own:Ty} {d:List Ins} {lh:Hd} {ib:List (Ins × Nat)} {mb:Nat} {E:List E3} {c:Nat}
theorem l97_5 {C:Option Addr→Addr→Addr→Option Addr→Nat→Nat→Int→Int→World→Prop} {p64 p115:Option Addr} {n64 c64 n115 c115:Nat} {x65 x66:Int} {ts:List Int} {i:Ins} {v:Value}
  (hpa:PassAt w0 pb th own d lh ib mb E c) (hld:∀ t∈ts,∃ k,zbz d t=some k∧k < m) (hgo:ts≠[]→SpOK go) (hln:n115≤1000000) :
  ∀ (q k:Nat) (hv:List (Int × Int)) (met:List Bool) (w:World),k+q=n115→HvOK m hv met →
   Hp zan w0 w (E142 x13 x11 x16 x12 g g2 m n go hv met (.own x14 #[.int .i64 i.at_,.int .i64 i.code,v,.int .i64 i.next] 70::.see 1 p115 n115 c115 (ints ts)::R)) →
   ((zce d n go (ts.drop k) hv met).1=false→∀ w',Bl w0 w'→K (scanV 72 i.at_) w') →
   ((zce d n go (ts.drop k) hv met).1=true→∀ w',Hp zan w0 w' (E142 x13 x11 x16 x12 g g2 m n go (zce d n go (ts.drop k) hv met).2.1 (zce d n go (ts.drop k) hv met).2.2 (.own x14 #[.int .i64 i.at_,.int .i64 i.code,v,.int .i64 i.next] 70::.see 1 p115 n115 c115 (ints ts)::R)) →
    C (some ⟨pb,0,none⟩) ⟨x11,0,none⟩ ⟨x12,0,none⟩ p64 n64 c64 x65 (IntKind.wrap .i64 (x66+1)) w') →
   L97_5 K C (q+1) (some ⟨pb,0,none⟩) ⟨x11,0,none⟩ ⟨x12,0,none⟩ ⟨x14,0,none⟩ ⟨x13,0,none⟩ ⟨x11,0,none⟩ ⟨x16,0,none⟩ ⟨x12,0,none⟩ p64 n64 c64 x65 x66 p115 n115 c115 (n115:Int) (k:Int) w:=by
 intro q
 induction q with
 | zero =>
  intro k hv met w hk hok hh kb kg
  have hs:=hh.sees (SeeIn.pos (p:=p115) (n:=n115) (c:=c115))
  have hl:=hs.len
  rw [zbl] at hl
  unfold L97_5
  refine ifD (fun h=>by omega) fun _=>?_
  unfold J97_2
  have hd:ts.drop k=[]:=List.drop_of_length_le (by omega)
  rw [hd] at kg
  exact kg rfl w hh
 | succ q ih =>
  intro k hv met w hk hok hh kb kg
  have hs:=hh.sees (SeeIn.pos (p:=p115) (n:=n115) (c:=c115))
  have hl:=hs.len
  rw [zbl] at hl
  unfold L97_5
  refine ifD (fun _=>?_) fun h=>by omega
  refine rdI hs (by with_unfolding_all rfl) (by with_unfolding_all rfl) (by omega) (by omega) fun t ht=>?_
  simp only [Int.toNat_natCast] at ht
  have hd:ts.drop k=t::ts.drop (k+1):=by
   have hlt:k < ts.length:=by omega
   rw [List.getElem?_eq_getElem hlt] at ht
   cases ht
   exact List.drop_eq_getElem_cons hlt
  obtain ⟨j,hj,hjm⟩:=hld t (List.mem_of_getElem? ht)
  rw [hd,zce,hj] at kb kg
  simp only [Option.getD_some] at kb kg
  repeat' first|(with_reducible first|refine kk_ ?_|refine nx hh ?_|refine allW fun w' hh=>?_|exact sd_|refine ldM ((hpa.pass).bl hh.done) (j:=5) (o:=0) rfl ?_|refine And.intro ?_ ?_|exact vr)|fail
  refine lookupI0 ((hpa.place).bl hh.done) (by with_unfolding_all rfl) (by with_unfolding_all rfl) ?_ fun w=>rfl
  first|rw [hpa.plc t,hj]|(dsimp only;rw [hpa.plc t,hj])
  refine kI ?_
  refine f142 (to:=j) hh hok.hl hok.ml hjm fun w1 hh=>?_
  refine kB ?_
  cases hp:(zdu n j go hv met).1 with
  | false =>
   refine zco ?_
   rw [if_neg (by rw [hp];decide)] at kb
   with_reducible repeat' first|refine kk_ ?_|refine nx hh ?_|refine allW fun w' hh=>?_|exact sd_|refine ai ?_ ?_|exact vr|fail
   exact kb rfl _ hh.done
  | true =>
   refine zcj ?_
   rw [if_pos hp] at kb kg
   first|rw [i64w (by omega) (by omega)]|(dsimp only;rw [i64w (by omega) (by omega)])
   exact_mod_cast ih (k+1) _ _ w1 (by omega) (hok.pass (hgo (by intro h;rw [h] at hd;simp at hd))) hh kb kg
end
theorem rowFact {Z:Nat→Prop} {w0 w w':World} {L:List Ent} {z n c:Nat} {p:Option Addr} {e:TypeId} {xs:List Value} (h:Hp Z w0 w L) (k:Bl w w') (hr:RowZ w' z (.slice p n c) e n xs) (hf:∀ g,Blk (.slice p n c) g→w.heap.size≤g):Hp Z w0 w' (.row z p n c e xs::L) :=
 h.add (x:=.row z p n c e xs) k hr hf
section
variable {w0 w:World} {K:Value→World→Prop} {x13 x11 x16 x12 x14 g g2 m n:Nat} {go:Int × Int} {R:List Ent} {pb:Nat} {th:Hd} {ts:List Ty} {own:Ty} {d:List Ins} {lh:Hd} {ib:List (Ins × Nat)} {mb:Nat} {E:List E3} {c:Nat}
theorem e142see {Z:Nat→Prop} {hv:List (Int × Int)} {met:List Bool} {s y:Ent} (h:Hp Z w0 w (s::E142 x13 x11 x16 x12 g g2 m n go hv met (y::R))):Hp Z w0 w (E142 x13 x11 x16 x12 g g2 m n go hv met (y::s::R)) :=
 h.perm (List.perm_middle (l₁:=E142 x13 x11 x16 x12 g g2 m n go hv met [y]) (a:=s) (l₂:=R)).symm
abbrev B97 (x11 x12 g g2 m:Nat) (hv:List (Int × Int)) (met:List Bool):List Ent :=
 [.own x11 #[.slice (some ⟨g,0,none⟩) m m] 237,.own x12 #[.slice (some ⟨g2,0,none⟩) m m] 47,.own g (zbk hv).toArray 241,.own g2 (zbr met).toArray 4]
theorem j97_4 {C:Option Addr→Addr→Addr→Option Addr→Nat→Nat→Int→Int→World→Prop} {p64:Option Addr} {n64 c64:Nat} {x65 x66:Int} {i:Ins} {bi:Nat} {hv:List (Int × Int)} {met:List Bool}
  (hpa:PassAt w0 pb th own d lh ib mb E c) (hrp:RightP ts own d) (hm:m=d.length) (hi:(i,bi)∈ib) (hok:HvOK m hv met) (hgo:¬ (i.code=228∨i.code=229)→SpOK go)
  (hh:Hp zan w0 w (E142 x13 x11 x16 x12 g g2 m n go hv met (.own x14 #[.int .i64 i.at_,.int .i64 i.code,.slice (some ⟨bi,0,none⟩) i.imm.length i.imm.length,.int .i64 i.next] 70::R)))
  (kb:(zce d n go (zas i) hv met).1=false→∀ w',Bl w0 w'→K (scanV 72 i.at_) w')
  (kg:(zce d n go (zas i) hv met).1=true→∀ w',Hp zan w0 w' (B97 x11 x12 g g2 m (zce d n go (zas i) hv met).2.1 (zce d n go (zas i) hv met).2.2) →
    C (some ⟨pb,0,none⟩) ⟨x11,0,none⟩ ⟨x12,0,none⟩ p64 n64 c64 x65 (IntKind.wrap .i64 (x66+1)) w') :
  J97_4 K C (some ⟨pb,0,none⟩) ⟨x11,0,none⟩ ⟨x12,0,none⟩ ⟨x14,0,none⟩ ⟨x13,0,none⟩ ⟨x11,0,none⟩ ⟨x16,0,none⟩ ⟨x12,0,none⟩ p64 n64 c64 x65 x66 w:=by
 have hid:i∈d:=by rw [← hpa.ibd];exact List.mem_map_of_mem hi
 obtain ⟨q0,q1,q2,_⟩:=hrp.ins i hid
 unfold J97_4
 with_reducible repeat' first|refine kk_ ?_|refine nx hh ?_|refine allW fun w' hh=>?_|exact sd_|refine ai ?_ ?_|exact vr|fail
 refine f40 q0 q1 ((hpa.list.imms _ hi).bl hh.done) (by omega) fun p' n' c' w1 hb hr hf=>?_
 have hll:=leadsT_len (i:=i) q2
 have hn':n'=(zas i).length:=by have:=hr.sees.len;rw [zbl] at this;omega
 have hh2:=e142see (rowSee (rowFact hh hb hr hf))
 refine kL ⟨n'+1,?_⟩
 have hne:zas i≠[]→SpOK go:=fun h=>hgo fun h2=>h (leads_ends h2).1
 exact_mod_cast l97_5 (i:=i) (ts:=zas i) hpa (fun t ht=>by obtain ⟨k,h1,h2⟩:=hrp.leads i hid t ht;exact ⟨k,h1,by omega⟩) hne (by omega) n' 0 hv met w1 (by omega) hok hh2 (fun h w' hb=>kb h w' hb) (fun h w' hh=>by
  refine kg h w' ?_
  replace hh:=hh.sublist (M:=[.own x11 #[.slice (some ⟨g,0,none⟩) m m] 237,.own x12 #[.slice (some ⟨g2,0,none⟩) m m] 47,.own g _ 241,.own g2 _ 4]) (.cons _ (.cons_cons _ (.cons _ (.cons_cons _ (.cons_cons _ (.cons_cons _ (List.nil_sublist _)))))))
  exact hh)
theorem j97_3 {C:Option Addr→Addr→Addr→Option Addr→Nat→Nat→Int→Int→World→Prop} {p64:Option Addr} {n64 c64:Nat} {x65 x66:Int} {i:Ins} {bi:Nat} {hv:List (Int × Int)} {met:List Bool}
  (hpa:PassAt w0 pb th own d lh ib mb E c) (hrp:RightP ts own d) (hm:m=d.length) (hm2:m≤1000000000) (hi:(i,bi)∈ib) (hin:d[n]? = some i) (hok:HvOK m hv met) (hgo:¬ (i.code=228∨i.code=229)→SpOK go)
  (hh:Hp zan w0 w (E142 x13 x11 x16 x12 g g2 m n go hv met (.own x14 #[.int .i64 i.at_,.int .i64 i.code,.slice (some ⟨bi,0,none⟩) i.imm.length i.imm.length,.int .i64 i.next] 70::R)))
  (kb:(zce d n go (zas i) (zdj i n go hv met).1 (zdj i n go hv met).2).1=false→∀ w',Bl w0 w'→K (scanV 72 i.at_) w')
  (kg:(zce d n go (zas i) (zdj i n go hv met).1 (zdj i n go hv met).2).1=true→∀ w',Hp zan w0 w' (B97 x11 x12 g g2 m (zce d n go (zas i) (zdj i n go hv met).1 (zdj i n go hv met).2).2.1 (zce d n go (zas i) (zdj i n go hv met).1 (zdj i n go hv met).2).2.2) →
    C (some ⟨pb,0,none⟩) ⟨x11,0,none⟩ ⟨x12,0,none⟩ p64 n64 c64 x65 (IntKind.wrap .i64 (x66+1)) w') :
  J97_3 K C (some ⟨pb,0,none⟩) ⟨x11,0,none⟩ ⟨x12,0,none⟩ ⟨x13,0,none⟩ ⟨x14,0,none⟩ ⟨x16,0,none⟩ p64 n64 c64 x65 x66 w:=by
 have hid:i∈d:=by rw [← hpa.ibd];exact List.mem_map_of_mem hi
 obtain ⟨q0,q1,q2,_⟩:=hrp.ins i hid
 have hnl:=(List.getElem?_eq_some_iff.1 hin).1
 unfold J97_3
 with_reducible repeat' first|refine kk_ ?_|refine nx hh ?_|refine allW fun w' hh=>?_|exact sd_|refine ai ?_ ?_|exact vr|fail
 refine f36 q0 q1 fun cd nm imm inn out gas en w1 hb hr=>?_
 replace hh:=hh.bl hb
 have hen:en=zde i.code:=by
  unfold zde
  cases ho:opT i.code with
  | none=>rw [ho] at hr;exact hr.2.2.2.2.2.2
  | some r=>rw [ho] at hr;exact (rowP_some hr).2.2.2.2.2
 subst hen
 with_reducible repeat' first|refine kk_ ?_|refine nx hh ?_|refine allW fun w' hh=>?_|exact sd_|refine ai ?_ ?_|exact vr|fail
 cases he:zde i.code with
 | true =>
  refine zcj ?_
  rw [zdj,if_pos he] at kb kg
  exact j97_4 hpa hrp hm hi hok hgo (hh.sublist (by repeat (first|exact List.Sublist.refl _|apply List.Sublist.cons))) kb kg
 | false =>
  refine zco ?_
  rw [zdj,if_neg (by rw [he];decide)] at kb kg
  have hlast:=hrp.last n i hin he
  have hc:¬ (i.code=228∨i.code=229):=fun h=>by rw [(leads_ends h).2] at he;cases he
  with_reducible repeat' first|refine kk_ ?_|refine nx hh ?_|refine allW fun w' hh=>?_|exact sd_|refine ai ?_ ?_|exact vr|fail
  first|rw [i64w (n:=(n:Int)+1) (by omega) (by omega)]|(dsimp only;rw [i64w (n:=(n:Int)+1) (by omega) (by omega)])
  have hh2:=hh.sublist (M:=E142 x13 x11 x16 x12 g g2 m n go hv met (.own x14 #[.int .i64 i.at_,.int .i64 i.code,.slice (some ⟨bi,0,none⟩) i.imm.length i.imm.length,.int .i64 i.next] 70::R)) (by repeat (first|exact List.Sublist.refl _|apply List.Sublist.cons))
  have:=f142 (to:=n+1) (K:=fun v5 w4=>asB v5 fun b4=>J97_4 K C (some ⟨pb,0,none⟩) ⟨x11,0,none⟩ ⟨x12,0,none⟩ ⟨x14,0,none⟩ ⟨x13,0,none⟩ ⟨x11,0,none⟩ ⟨x16,0,none⟩ ⟨x12,0,none⟩ p64 n64 c64 x65 x66 w4) hh2 hok.hl hok.ml (by omega) fun w2 hh3=>?_
  ·exact_mod_cast this
  ·refine kB ?_
   exact j97_4 hpa hrp hm hi (hok.pass (hgo hc)) hgo hh3 kb kg
end
theorem sp0 {hv:List (Int × Int)} {k:Nat} (h:k < hv.length):(zbk hv).toArray[k * 2]? = some (.int .i64 (hv.getD k (0,0)).1):=by
 have hg:hv[k]? = some hv[k]:=List.getElem?_eq_getElem h
 have:=spCells_get (j:=0) hg (by decide)
 rw [List.getD_eq_getElem?_getD,hg]
 simpa using this
theorem sp1 {hv:List (Int × Int)} {k:Nat} (h:k < hv.length):(zbk hv).toArray[k * 2+1]? = some (.int .i64 (hv.getD k (0,0)).2):=by
 have hg:hv[k]? = some hv[k]:=List.getElem?_eq_getElem h
 have:=spCells_get (j:=1) hg (by decide)
 rw [List.getD_eq_getElem?_getD,hg]
 simpa using this
theorem bl0 {met:List Bool} {k:Nat} (h:k < met.length):(zbr met).toArray[k * 1]? = some (.bool (met.getD k false)):=by
 have hg:met[k]? = some met[k]:=List.getElem?_eq_getElem h
 have:=bools_get hg
 rw [List.getD_eq_getElem?_getD,hg,Nat.mul_one]
 simpa using this
section
variable {w0:World} {K:Value→World→Prop} {x11 x12 g g2 m:Nat} {pb:Nat} {th:Hd} {ts:List Ty} {own:Ty} {d:List Ins} {lh:Hd} {ib:List (Ins × Nat)} {mb:Nat} {E:List E3} {c:Nat}
theorem l97_1 (hpa:PassAt w0 pb th own d lh ib mb E c) (hty:Sees w0 3 th.p th.n th.c (zat ts)) (hrp:RightP ts own d) (hm:m=d.length) (hm2:m≤1000000000) {res:Except (Int × Int) (List (Int × Int))}
  (kb:∀ e a,res = .error (e,a)→∀ w',Bl w0 w'→K (scanV e a) w')
  (kg:∀ hv met,res = .ok hv→HvOK m hv met→∀ w',Hp zan w0 w' (B97 x11 x12 g g2 m hv met)→J97_0 K (some ⟨pb,0,none⟩) ⟨x11,0,none⟩ w') :
  ∀ (q k:Nat) (hv:List (Int × Int)) (met:List Bool) (w:World),k+q=m→HvOK m hv met→hGo ts own d (d.drop k) k hv met=res→Hp zan w0 w (B97 x11 x12 g g2 m hv met) →
   L97_1 K (q+1) (some ⟨pb,0,none⟩) ⟨x11,0,none⟩ ⟨x12,0,none⟩ lh.p lh.n lh.c (lh.n:Int) (k:Int) w:=by
 have hln:=hpa.list.len
 have hdn:ib.length=d.length:=by rw [← hpa.ibd];simp
 intro q
 induction q with
 | zero =>
  intro k hv met w hk hok hq hh
  unfold L97_1
  refine ifD (fun h=>by omega) fun _=>?_
  rw [List.drop_of_length_le (by omega),hGo] at hq
  exact kg hv met hq.symm hok w hh
 | succ q ih =>
  intro k hv met w hk hok hq hh
  have hkm:k < m:=by omega
  unfold L97_1
  refine ifD (fun _=>?_) fun h=>by omega
  refine rdIns ((hpa.list).bl hh.done) (by with_unfolding_all rfl) (by with_unfolding_all rfl) (by omega) (by omega) fun x ad hx d0 d1 d2 d3 hsee=>?_
  simp only [Int.toNat_natCast] at hx
  obtain ⟨i,bi⟩:=x
  have hxm:(i,bi)∈ib:=List.mem_of_getElem? hx
  have hin:d[k]? = some i:=by rw [← hpa.ibd,List.getElem?_map,hx];rfl
  have hdk:d.drop k=i::d.drop (k+1):=by
   have hlt:k < d.length:=by omega
   rw [List.getElem?_eq_getElem hlt] at hin
   cases hin
   exact List.drop_eq_getElem_cons hlt
  have hid:i∈d:=List.mem_of_getElem? hin
  obtain ⟨q0,q1,q2,q3⟩:=hrp.ins i hid
  have himm:=hpa.list.imms _ hxm
  rw [hdk,hGo] at hq
  have c0:=sp0 (hv:=hv) (k:=k) (by rw [hok.hl];exact hkm)
  have c1:=sp1 (hv:=hv) (k:=k) (by rw [hok.hl];exact hkm)
  have cm:=bl0 (met:=met) (k:=k) (by rw [hok.ml];exact hkm)
  have hsp:=getD_ok hok.sp k
  generalize hh0:hv.getD k (0,0)=h at hq c0 c1 hsp
  have hsp':=hsp
  unfold SpOK at hsp'
  with_reducible refine kA ?_
  repeat' first|(with_reducible first|refine kk_ ?_|refine nx hh ?_|refine allW fun w' hh=>?_|exact sd_|refine ld d0 ?_|refine ld d1 ?_|refine ld d2 ?_|refine ld d3 ?_|refine And.intro ?_ ?_|exact vr)|fail
  refine zdo (z:=1) (by with_unfolding_all rfl) (by with_unfolding_all rfl) hkm ?_
  repeat' first|(with_reducible first|refine kk_ ?_|refine nx hh ?_|refine allW fun w' hh=>?_|exact sd_|refine ldO (hh.own (b:=g2) (cs:=(zbr met).toArray) (t:=4) (by repeat (first|exact m0|apply mS))) cm ?_|refine And.intro ?_ ?_|exact vr)|fail
  cases hmet:met.getD k false with
  | false =>
   refine zco ?_
   rw [if_pos hmet] at hq
   with_reducible repeat' first|refine kk_ ?_|refine nx hh ?_|refine allW fun w' hh=>?_|exact sd_|refine ai ?_ ?_|exact vr|fail
   exact kb _ _ hq.symm _ hh.done
  | true =>
   refine zcj ?_
   rw [if_neg (by rw [hmet];decide)] at hq
   with_reducible repeat' first|refine kk_ ?_|refine nx hh ?_|refine allW fun w' hh=>?_|exact sd_|refine ai ?_ ?_|exact vr|fail
   refine zdo (z:=2) (by with_unfolding_all rfl) (by with_unfolding_all rfl) hkm ?_
   repeat' first|(with_reducible first|refine kk_ ?_|refine nx hh ?_|refine allW fun w' hh=>?_|exact sd_|refine ldO (hh.own (b:=g) (cs:=(zbk hv).toArray) (t:=241) (by repeat (first|exact m0|apply mS))) c0 ?_|refine ldM (hh.own (b:=g) (cs:=(zbk hv).toArray) (t:=241) (by repeat (first|exact m0|apply mS))) c1 ?_|refine And.intro ?_ ?_|exact vr)|fail
   refine f139 ((hpa.pass).bl hh.done) (hty.bl hh.done) (himm.bl hh.done) q2 q0 q1 q3 hrp.tys hrp.own_ (by omega) (by omega) (by omega) (by omega) fun w1 hb1=>?_
   replace hh:=hh.bl hb1
   refine kI (ifNe (fun hw=>?_) fun hw=>?_)
   ·rw [if_pos hw] at hq
    with_reducible repeat' first|refine kk_ ?_|refine nx hh ?_|refine allW fun w' hh=>?_|exact sd_|refine ai ?_ ?_|exact vr|fail
    exact kb _ _ hq.symm _ hh.done
   rw [if_neg (fun h=>h hw)] at hq
   have hgo:¬ (i.code=228∨i.code=229)→SpOK (goT ts own i h):=fun hc=>goT_ok hrp.tys hrp.own_ q0 q1 hsp hw hc
   have hok2:=hok.next (n:=k) (i:=i) (go:=goT ts own i h) fun he=>hgo fun hc=>by rw [(leads_ends hc).2] at he;cases he
   have hok3:=hok2.leads (n:=k) (d:=d) (go:=goT ts own i h) (ts:=zas i) fun hne=>hgo fun hc=>hne (leads_ends hc).1
   have hJ:∀ {x13 x14 x16:Nat} {w':World} {R:List Ent},Hp zan w0 w' (E142 x13 x11 x16 x12 g g2 m k (goT ts own i h) hv met (.own x14 #[.int .i64 i.at_,.int .i64 i.code,.slice (some ⟨bi,0,none⟩) i.imm.length i.imm.length,.int .i64 i.next] 70::R)) →
     J97_3 K (L97_1 K (q+1)) (some ⟨pb,0,none⟩) ⟨x11,0,none⟩ ⟨x12,0,none⟩ ⟨x13,0,none⟩ ⟨x14,0,none⟩ ⟨x16,0,none⟩ lh.p lh.n lh.c (lh.n:Int) (k:Int) w':=by
    intro x13 x14 x16 w' R hh
    refine j97_3 hpa hrp hm hm2 hxm hin hok hgo hh (fun hf w' hb=>?_) (fun hf w' hh=>?_)
    ·rw [if_neg (by rw [hf];decide)] at hq
     exact kb _ _ hq.symm _ hb
    ·rw [if_pos hf] at hq
     rw [i64w (by omega) (by omega)]
     exact_mod_cast ih (k+1) _ _ w' (by omega) hok3 hq hh
   have htl:=turnsT_lt hrp.tys hrp.own_ q0 q1 (i:=i)
   with_reducible repeat' first|refine kk_ ?_|refine nx hh ?_|refine allW fun w' hh=>?_|exact sd_|refine ai ?_ ?_|exact vr|fail
   refine zdo (z:=2) (by with_unfolding_all rfl) (by with_unfolding_all rfl) hkm ?_
   repeat' first|(with_reducible first|refine kk_ ?_|refine nx hh ?_|refine allW fun w' hh=>?_|exact sd_|refine ldO (hh.own (b:=g) (cs:=(zbk hv).toArray) (t:=241) (by repeat (first|exact m0|apply mS))) c0 ?_|refine ldM (hh.own (b:=g) (cs:=(zbk hv).toArray) (t:=241) (by repeat (first|exact m0|apply mS))) c1 ?_)|((with_reducible refine f141 (ts:=ts) (own:=own) (i:=i) ((hpa.pass).bl hh.done) (hty.bl hh.done) (himm.bl hh.done) q2 q0 q1 q3 fun w' hb=>?_);(replace hh:=hh.bl hb))|((with_reducible refine f140 (by omega) (by omega) (by omega) (by omega) fun w' hb=>?_);(replace hh:=hh.bl hb))|(with_reducible first|exact True.intro|refine And.intro ?_ ?_|exact vr)|fail
   all_goals exact hJ (((((((hh.front (x:=.own _ #[.int .i64 i.at_,_,_,_] 70) (by repeat (first|exact Pick.here|apply Pick.there))).front (x:=.own g2 (zbr met).toArray 4) (by repeat (first|exact Pick.here|apply Pick.there))).front (x:=.own g (zbk hv).toArray 241) (by repeat (first|exact Pick.here|apply Pick.there))).front (x:=.own x12 #[_] 47) (by repeat (first|exact Pick.here|apply Pick.there))).front (x:=.own _ #[.int .i64 _,.int .i64 _] 241) (by repeat (first|exact Pick.here|apply Pick.there))).front (x:=.own x11 #[_] 237) (by repeat (first|exact Pick.here|apply Pick.there))).front (x:=.own _ #[.int .i64 (k:Int)] 3) (by repeat (first|exact Pick.here|apply Pick.there)))
theorem j97_0 {w:World} {hv:List (Int × Int)} {met:List Bool} (hpa:PassAt w0 pb th own d lh ib mb E c) (hm:m=d.length) (hm2:m≤1000000000) (hok:HvOK m hv met) (hh:Hp zan w0 w (B97 x11 x12 g g2 m hv met))
  (k:∀ q cap w',Hp zan w0 w' (.row 3 q m cap 158 (zat (htsT d hv))::B97 x11 x12 g g2 m hv met)→K (.tuple #[.slice q m cap,.int .i64 0,.int .i64 0]) w') :
  J97_0 K (some ⟨pb,0,none⟩) ⟨x11,0,none⟩ w:=by
 have hln:=hpa.list.len
 have hdn:ib.length=d.length:=by rw [← hpa.ibd];simp
 unfold J97_0
 repeat' first|(with_reducible first|refine kk_ ?_|refine nx hh ?_|refine allW fun w' hh=>?_|exact sd_|refine ldM ((hpa.pass).bl hh.done) (v:=lh.v) (j:=4) (o:=0) rfl ?_|refine And.intro ?_ ?_|exact vr)|fail
 refine makeRZ (z:=3) hh (by with_unfolding_all rfl) (by with_unfolding_all rfl) (by with_unfolding_all rfl) (by with_unfolding_all rfl) (by with_unfolding_all rfl) (by omega) (by with_unfolding_all rfl) fun w1 hh=>?_
 repeat' first|(with_reducible first|refine kk_ ?_|refine nx hh ?_|refine allW fun w' hh=>?_|exact sd_|refine ldM ((hpa.pass).bl hh.done) (v:=lh.v) (j:=4) (o:=0) rfl ?_|refine And.intro ?_ ?_|exact vr)|fail
 refine ⟨lh.n+1,?_⟩
 have loop:∀ (q k:Nat) (p:Option Addr) (n cap:Nat) (w:World),k+q=lh.n→n=k→Hp zan w0 w (.row 3 p n cap 158 (zat (htsT (d.take k) (hv.take k)))::B97 x11 x12 g g2 m hv met)→L97_6 K (q+1) ⟨x11,0,none⟩ p n cap lh.p lh.n lh.c (lh.n:Int) (k:Int) w:=by
  clear hh
  intro q
  induction q with
  | zero =>
   intro j p n cap w hj hn hh
   unfold L97_6
   refine ifD (fun h=>by omega) fun _=>?_
   rw [List.take_of_length_le (by omega),List.take_of_length_le (by rw [hok.hl];omega)] at hh
   have:n=m:=by omega
   subst this
   exact k _ _ _ hh
  | succ q ih =>
   intro j p n cap w hj hn hh
   subst hn
   have hjm:n < m:=by omega
   unfold L97_6
   refine ifD (fun _=>?_) fun h=>by omega
   refine rdIns ((hpa.list).bl hh.done) (by with_unfolding_all rfl) (by with_unfolding_all rfl) (by omega) (by omega) fun x ad hx d0 d1 d2 d3 hsee=>?_
   simp only [Int.toNat_natCast] at hx
   obtain ⟨i,bi⟩:=x
   have hin:d[n]? = some i:=by rw [← hpa.ibd,List.getElem?_map,hx];rfl
   have hhg:hv[n]? = some (hv.getD n (0,0)):=by
    have:hv[n]? = some (hv[n]'(by rw [hok.hl];exact hjm)):=List.getElem?_eq_getElem _
    rw [List.getD_eq_getElem?_getD,this];rfl
   have c0:=sp0 (hv:=hv) (k:=n) (by rw [hok.hl];exact hjm)
   have c1:=sp1 (hv:=hv) (k:=n) (by rw [hok.hl];exact hjm)
   generalize hv.getD n (0,0)=h at c0 c1 hhg
   repeat' first|(with_reducible first|refine kk_ ?_|refine nx hh ?_|refine allW fun w' hh=>?_|exact sd_|refine ld d0 ?_|refine ld d1 ?_|refine ld d2 ?_|refine ld d3 ?_|refine And.intro ?_ ?_|exact vr)|fail
   refine zdo (z:=2) (by with_unfolding_all rfl) (by with_unfolding_all rfl) hjm ?_
   repeat' first|(with_reducible first|refine kk_ ?_|refine nx hh ?_|refine allW fun w' hh=>?_|exact sd_|refine ldO (hh.own (b:=g) (cs:=(zbk hv).toArray) (t:=241) (by repeat (first|exact m0|apply mS))) c0 ?_|refine And.intro ?_ ?_|exact vr)|fail
   refine zdo (z:=2) (by with_unfolding_all rfl) (by with_unfolding_all rfl) hjm ?_
   repeat' first|(with_reducible first|refine kk_ ?_|refine nx hh ?_|refine allW fun w' hh=>?_|exact sd_|refine ldM (hh.own (b:=g) (cs:=(zbk hv).toArray) (t:=241) (by repeat (first|exact m0|apply mS))) c1 ?_)|((with_reducible refine appH hh (by with_unfolding_all rfl) (by with_unfolding_all rfl) (by with_unfolding_all rfl) (by with_unfolding_all rfl) (by with_unfolding_all rfl) (by with_unfolding_all rfl) (by with_unfolding_all rfl) (by omega) (by with_unfolding_all rfl) fun g9 cap9 w4 hh=>?_);(replace hh:=hh.tail))|(with_reducible first|refine And.intro ?_ ?_|exact vr)|fail
   first|rw [i64w (n:=(n:Int)+1) (by omega) (by omega)]|(dsimp only;rw [i64w (n:=(n:Int)+1) (by omega) (by omega)])
   have e1:zat (htsT (d.take n) (hv.take n))++#[Value.int .i64 i.at_,.int .i64 h.1,.int .i64 h.2].toList=zat (htsT (d.take (n+1)) (hv.take (n+1))):=by
    first|rw [List.take_add_one,List.take_add_one,hin,hhg]|(dsimp only;rw [List.take_add_one,List.take_add_one,hin,hhg])
    unfold htsT
    first|rw [List.zipWith_append (by rw [List.length_take,List.length_take,hok.hl];omega)]|(dsimp only;rw [List.zipWith_append (by rw [List.length_take,List.length_take,hok.hl];omega)])
    simp only [Option.toList_some,List.zipWith_cons_cons,List.zipWith_nil_right]
    first|rw [tyCells_app]|(dsimp only;rw [tyCells_app])
   rw [e1] at hh
   exact_mod_cast ih (n+1) (some ⟨g9,0,none⟩) (n+1) cap9 _ (by omega) rfl (hh.sublist (by repeat (first|exact List.Sublist.refl _|apply List.Sublist.cons)))
 exact_mod_cast loop lh.n 0 _ 0 _ w1 (by omega) rfl hh
end
theorem f97 {w:World} {K:Value→World→Prop} {th:Hd} {ts:List Ty} {l:List UInt8} {s:Int} {p:Option Addr} {n c:Nat} (hty:Sees w 3 th.p th.n th.c (zat ts)) (htl:th.n≤1000000000) (hs:Sees w 1 p n c (u8s l)) (hln:l.length≤1000000000)
  (ke:∀ e a,zbb ts s l = .error (e,a)→∀ w',Bl w w'→K (scanV e a) w')
  (ko:∀ hs,zbb ts s l = .ok hs→∀ q m cap w',Bl w w'→m=hs.length→RowZ w' 3 (.slice q m cap) 158 m (zat hs)→(∀ g,Blk (.slice q m cap) g→w.heap.size≤g)→K (.tuple #[.slice q m cap,.int .i64 0,.int .i64 0]) w') :
  zaj Tryz.prog 97 #[th.v,.int .i64 s,.slice p n c] w K:=by
 refine call97 _ _ _ _ _ _ _ _ _ ?_
 unfold F97
 refine f138 hty htl hs hln (fun hr w1 hb=>?_) (fun own d hr pb lh ib mb E c w1 hb hpa=>?_)
 ·have hh:=Hp.start w1
  unfold noV
  with_reducible repeat' first|refine kk_ ?_|refine nx hh ?_|refine allW fun w' hh=>?_|exact sd_|refine ai ?_ ?_|exact vr|fail
  refine ifBt ?_
  exact ke 1 0 (by rw [zbb,hr]) _ hb
 obtain ⟨hrp,hda⟩:=rightP hr
 have hal:=zdm l
 have hln2:=hpa.list.len
 have hdn:ib.length=d.length:=by rw [← hpa.ibd];simp
 have hdl:d.length≤l.length:=by rw [hda];exact hal
 have hd0:0 < d.length:=List.length_pos_iff.2 hrp.ne
 have hh:=Hp.start w1
 have hH:zbb ts s l=match hGo ts own d d 0 ((List.replicate d.length (0,0)).set 0 (own.inn,own.inn)) ((List.replicate d.length false).set 0 true) with|.error x=>.error x|.ok hv=>.ok (htsT d hv):=by rw [zbb,hr];try rfl
 with_reducible repeat' first|refine kk_ ?_|refine nx hh ?_|refine allW fun w' hh=>?_|exact sd_|refine ai ?_ ?_|exact vr|fail
 refine zcj ?_
 obtain ⟨m,hm⟩:∃ m,m=d.length:=⟨_,rfl⟩
 have hlm:lh.n=m:=by omega
 repeat' first|(with_reducible first|refine kk_ ?_|refine nx hh ?_|refine allW fun w' hh=>?_|exact sd_|refine ldM ((hpa.pass).bl hh.done) (v:=lh.v) (j:=4) (o:=0) rfl ?_|refine And.intro ?_ ?_|exact vr)|fail
 first|rw [hlm]|(dsimp only;rw [hlm])
 refine makeZ (z:=2) (n:=m) hh (by with_unfolding_all rfl) (by with_unfolding_all rfl) (by with_unfolding_all rfl) (by with_unfolding_all rfl) (by omega) (by with_unfolding_all rfl) fun w2 hh hb2=>?_
 generalize w1.heap.size=g at hh ⊢
 refine kL ?_
 with_reducible refine zci hh fun w3 hh hb3=>?_
 generalize w2.heap.size=x11 at hh ⊢
 repeat' first|(with_reducible first|refine kk_ ?_|refine nx hh ?_|refine allW fun w' hh=>?_|exact sd_|refine ldM ((hpa.pass).bl hh.done) (v:=lh.v) (j:=4) (o:=0) rfl ?_|refine And.intro ?_ ?_|exact vr)|fail
 first|rw [hlm]|(dsimp only;rw [hlm])
 refine makeN (n:=m) (z:=.bool false) hh (by with_unfolding_all rfl) (by with_unfolding_all rfl) (by with_unfolding_all rfl) (by omega) (by decide) fun w5 hh hb5=>?_
 generalize w'.heap.size=g2 at hh ⊢
 refine kL ?_
 with_reducible refine zci hh fun w6 hh hb6=>?_
 generalize w5.heap.size=x12 at hh ⊢
 have z1:repC (Value.agg #[.int .i64 0,.int .i64 0]).cells.toList m=zbk (List.replicate m (0,0)):=repC_sp m
 have z2:=repC_bools m
 rw [z1,z2] at hh
 repeat' first|(with_reducible first|refine kk_ ?_|refine nx hh ?_|refine allW fun w' hh=>?_|exact sd_|refine ldM ((hpa.pass).bl hh.done) (v:=.int .i64 own.inn) (j:=1) (o:=0) rfl ?_|refine And.intro ?_ ?_|exact vr)|fail
 refine zdo (i:=0) (z:=2) (by with_unfolding_all rfl) (by with_unfolding_all rfl) (by omega) ?_
 refine kA ?_
 first|rw [Nat.zero_mul]|(dsimp only;rw [Nat.zero_mul])
 refine stMid (cs:=zbk (List.replicate m (0,0))) (vs:=[.int .i64 own.inn,.int .i64 own.inn]) (o:=0) hh (by repeat (first|exact Pos.here|apply Pos.there)) (by simp [spCells_len];omega) (by with_unfolding_all rfl) rfl fun w7 hh _=>?_
 have z3:putC (zbk (List.replicate m (0,0))) 0 [.int .i64 own.inn,.int .i64 own.inn]=zbk ((List.replicate m (0,0)).set 0 (own.inn,own.inn)):=spCells_put (k:=0) (x:=(own.inn,own.inn)) (by simp;omega)
 rw [z3] at hh
 with_reducible repeat' first|refine kk_ ?_|refine nx hh ?_|refine allW fun w' hh=>?_|exact sd_|refine ai ?_ ?_|exact vr|fail
 refine zdo (i:=0) (z:=1) (by with_unfolding_all rfl) (by with_unfolding_all rfl) (by omega) ?_
 refine kA ?_
 first|rw [Nat.zero_mul]|(dsimp only;rw [Nat.zero_mul])
 refine stOne (cs:=zbr (List.replicate m false)) hh (by repeat (first|exact Pos.here|apply Pos.there)) (by simp [zcy];omega) (by with_unfolding_all rfl) rfl rfl fun w8 hh _=>?_
 rw [bools_set] at hh
 repeat' first|(with_reducible first|refine kk_ ?_|refine nx hh ?_|refine allW fun w' hh=>?_|exact sd_|refine ldM ((hpa.pass).bl hh.done) (v:=lh.v) (j:=4) (o:=0) rfl ?_|refine And.intro ?_ ?_|exact vr)|fail
 replace hh:=(((hh.front (x:=.own g2 (zbr ((List.replicate m false).set 0 true)).toArray 4) (by repeat (first|exact Pick.here|apply Pick.there))).front (x:=.own g (zbk ((List.replicate m (0,0)).set 0 (own.inn,own.inn))).toArray 241) (by repeat (first|exact Pick.here|apply Pick.there))).front (x:=.own x12 #[_] 47) (by repeat (first|exact Pick.here|apply Pick.there))).front (x:=.own x11 #[_] 237) (by repeat (first|exact Pick.here|apply Pick.there))
 have hoo:=hrp.own_
 unfold TyOK at hoo
 refine ⟨m+1,?_⟩
 have hok:HvOK m ((List.replicate m (0,0)).set 0 (own.inn,own.inn)) ((List.replicate m false).set 0 true):=by
  refine ⟨by simp,by simp,fun x hx=>?_⟩
  rcases List.mem_or_eq_of_mem_set hx with h1|h1
  ·rw [List.mem_replicate] at h1
   rw [h1.2];exact ⟨by decide,by decide,by decide⟩
  ·subst h1;exact ⟨by simp only;omega,by simp only;omega,by simp only;omega⟩
 rw [← hm] at hH
 have:=l97_1 (K:=K) (x11:=x11) (x12:=x12) (g:=g) (g2:=g2) (m:=m) hpa (hty.bl hb) hrp hm (by omega) (res:=hGo ts own d d 0 ((List.replicate m (0,0)).set 0 (own.inn,own.inn)) ((List.replicate m false).set 0 true))
  (fun e a he w' hb'=>ke e a (by rw [hH,he]) _ (hb.trans hb')) (fun hv met hr' hok' w' hh=>j97_0 hpa hm (by omega) hok' hh fun q cap w9 hh=>by
   have hlen:m=(htsT d hv).length:=by unfold htsT;rw [List.length_zipWith,hok'.hl];omega
   refine ko _ (by rw [hH,hr']) q m cap w9 (hb.trans hh.done) hlen (hh.row List.mem_cons_self) fun g hg=>?_
   have:=hh.rowNew List.mem_cons_self g hg
   have:=hb.size
   omega) m 0 _ _ _ (by omega) hok rfl hh
 exact_mod_cast this
def mostF:Int→List Ty→Int
 | n,[]=>n
 | n,h::l=>mostF (if h.most > n then h.most else n) l
def mostT:List Ty→Int
 | []=>0
 | h::l=>mostF h.most l
theorem f98 {p:Option Addr} {n c:Nat} {hs:List Ty} {w:World} {K:Value→World→Prop} (h:Sees w 3 p n c (zat hs)) (hn:n≤1000000000)
  (k:∀ w',Bl w w'→K (.int .i64 (mostT hs)) w'):zaj Tryz.prog 98 #[.slice p n c] w K:=by
 refine call98 _ _ _ _ _ ?_
 unfold F98
 have hl:=h.len
 rw [zbw] at hl
 have loop:∀ (q i:Nat) (x:Int) (w1:World),i+q=n→(i≠0→mostF x (hs.drop i)=mostT hs)→(i=0→x=0)→Bl w w1→L98_0 K (q+1) x p n c (n:Int) (i:Int) w1:=by
  intro q
  induction q with
  | zero =>
   intro i x w1 hi hq h0 hb
   unfold L98_0
   refine ifD (fun h=>by omega) fun _=>?_
   have hd:hs.drop i=[]:=List.drop_of_length_le (by omega)
   have kk:=k _ hb
   by_cases hi0:i=0
   ·have hnil:hs=[]:=List.length_eq_zero_iff.1 (by omega)
    rw [hnil] at kk
    rw [h0 hi0];exact kk
   ·have:=hq hi0
    rw [hd] at this
    rw [← this] at kk
    exact kk
  | succ q ih =>
   intro i x w1 hi hq h0 hb
   unfold L98_0
   refine ifD (fun _=>?_) fun h=>by omega
   refine rdTy (h.bl hb) (by with_unfolding_all rfl) (by with_unfolding_all rfl) (by omega) (by omega) fun t ad ht c0 c1 c2=>?_
   simp only [Int.toNat_natCast] at ht
   have hd:hs.drop i=t::hs.drop (i+1):=by
    have hlt:i < hs.length:=by omega
    rw [List.getElem?_eq_getElem hlt] at ht
    cases ht
    exact List.drop_eq_getElem_cons hlt
   have hh:=Hp.start w1
   have next:∀ (y:Int) {w2},Bl w1 w2→mostF y (hs.drop (i+1))=mostT hs→L98_0 K (q+1) y p n c (n:Int) (IntKind.wrap .i64 ((i:Int)+1)) w2:=fun y w2 hb2 hy=>by
    rw [i64w (by omega) (by omega)]
    exact_mod_cast ih (i+1) y w2 (by omega) (fun _=>hy) (fun h=>by omega) (hb.trans hb2)
   repeat' first|(with_reducible first|refine kk_ ?_|refine nx hh ?_|refine allW fun w' hh=>?_|exact sd_|refine ld c0 ?_|refine ld c1 ?_|refine ld c2 ?_|refine ifE (fun h2=>?_) (fun h2=>?_)|refine ifD (fun h3=>?_) (fun h3=>?_)|refine And.intro ?_ ?_|exact vr)|fail
   ·refine next _ hh.done ?_
    have:i=0:=by omega
    subst this
    rw [List.drop_zero] at hd
    rw [hd];rfl
   ·refine next _ hh.done ?_
    have:=hq (by omega)
    rw [hd,mostF,if_pos h3] at this
    exact this
   ·refine next _ hh.done ?_
    have:=hq (by omega)
    rw [hd,mostF,if_neg h3] at this
    exact this
 exact ⟨n+1,by exact_mod_cast loop n 0 0 w (by omega) (fun h=>absurd rfl h) (fun _=>rfl) (Bl.refl w)⟩
def goesT (how:Int) (own to:Ty):Int :=
 if how=227∧to.out=128 then 82 else if how=227∨to.out=128 then 0 else if own.out=128 then 82 else if to.out > own.out then 83 else 0
theorem f137 {r:Option Addr} {how:Int} {own to:Ty} {w:World} {K:Value→World→Prop} (k:∀ w',Bl w w'→K (.int .i64 (goesT how own to)) w') :
  zaj Tryz.prog 137 #[.pointer r,.int .i64 how,.agg #[.int .i64 own.inn,.int .i64 own.out,.int .i64 own.most],.agg #[.int .i64 to.inn,.int .i64 to.out,.int .i64 to.most]] w K:=by
 refine call137 _ _ _ _ _ _ _ _ _ _ ?_
 unfold F137
 have hh:=Hp.start w
 have key:∀ x w',goesT how own to=x→Bl w w'→K (.int .i64 x) w':=fun x w' hx hb=>hx ▸ k w' hb
 repeat' first|(with_reducible first|refine kk_ ?_|refine nx hh ?_|refine allW fun w' hh=>?_|exact sd_|refine ifE (fun h2=>?_) (fun h2=>?_)|refine And.intro ?_ ?_|exact vr)|fail
 all_goals unfold J137_0
 ·by_cases h3:to.out=128
  ·first|rw [show (to.out == 128)=true by simp [h3]]|(dsimp only;rw [show (to.out == 128)=true by simp [h3]])
   refine ifBt (key _ _ ?_ hh.done)
   first|rw [goesT,if_pos ⟨h2,h3⟩]|(dsimp only;rw [goesT,if_pos ⟨h2,h3⟩])
  ·first|rw [show (to.out == 128)=false by simp [h3]]|(dsimp only;rw [show (to.out == 128)=false by simp [h3]])
   refine ifBf (ifE (fun _=>?_) fun h=>absurd h2 h)
   unfold J137_1
   refine ifBt (key _ _ ?_ hh.done)
   rw [goesT,if_neg (fun h=>h3 h.2),if_pos (.inl h2)]
 ·refine ifBf (ifE (fun h=>absurd h h2) fun _=>?_)
  have e0:goesT how own to=if to.out=128 then 0 else if own.out=128 then 82 else if to.out > own.out then 83 else 0:=by
   rw [goesT,if_neg (fun h=>h2 h.1)]
   simp [h2]
  with_reducible repeat' first|refine kk_ ?_|refine nx hh ?_|refine allW fun w' hh=>?_|exact sd_|refine ai ?_ ?_|exact vr|fail
  unfold J137_1
  by_cases h3:to.out=128
  ·first|rw [show (to.out == 128)=true by simp [h3]]|(dsimp only;rw [show (to.out == 128)=true by simp [h3]])
   refine ifBt (key _ _ ?_ hh.done)
   first|rw [e0,if_pos h3]|(dsimp only;rw [e0,if_pos h3])
  ·first|rw [show (to.out == 128)=false by simp [h3]]|(dsimp only;rw [show (to.out == 128)=false by simp [h3]])
   rw [if_neg h3] at e0
   refine ifBf ?_
   repeat' first|(with_reducible first|refine kk_ ?_|refine nx hh ?_|refine allW fun w' hh=>?_|exact sd_|refine ifE (fun h4=>?_) (fun h4=>?_)|refine ifD (fun h5=>?_) (fun h5=>?_)|refine And.intro ?_ ?_|exact vr)|fail
   ·exact key _ _ (by rw [e0,if_pos h4]) hh.done
   ·exact key _ _ (by rw [e0,if_neg (by assumption),if_pos h5]) hh.done
   ·exact key _ _ (by rw [e0,if_neg (by assumption),if_neg h5]) hh.done
structure JS where
 makes:List Bool
 lays:List Bool
 calls:List (List Int)
abbrev judgeC (hd:Cd) (C:Cont) (kind:Int) (gm gl gc:Nat):Array Value :=
 #[hd.t.v,hd.c.v,hd.s.v,hd.d.v,.int .i64 C.size,.int .i64 kind,.slice (some ⟨gm,0,none⟩) hd.s.n hd.s.n,.slice (some ⟨gl,0,none⟩) hd.s.n hd.s.n,.slice (some ⟨gc,0,none⟩) hd.c.n hd.c.n]
abbrev JE (jb gm gl gc:Nat) (hd:Cd) (C:Cont) (kind:Int) (hs:List Hdr) (st:JS) (R:List Ent):List Ent :=
 .own jb (judgeC hd C kind gm gl gc) 143::.own gm (zbr st.makes).toArray 4::.own gl (zbr st.lays).toArray 4::rowsE gc 29 3 hs (st.calls.map ints)::R
def zca (C:Cont) (kind:Int) (st0:List Bool) (s:Nat) (i:Ins) (st:JS):Int × JS :=
 if barsT i.code kind=true then (80,st) else
 if badL st0.length st0 (zas i)=true then (63,st) else
 if i.code=227∨i.code=229 then
  if (zae i).1 ≥ C.types.length then (81,st) else (goesT i.code (C.types.getD s ⟨0,0,0⟩) (tyAt C.types i),{ st with calls:=st.calls.set s (st.calls.getD s []++[(zae i).1]) })
 else if i.code=228 then (if (C.types.getD s ⟨0,0,0⟩).out=128 then 82 else 0,st)
 else if i.code=209 then (if (zae i).1+32 > C.size then 84 else 0,st)
 else if i.code=236∨i.code=238 then
  if (zae i).1 ≥ C.subs.length then (85,st) else
  if i.code=236 then (0,{ st with makes:=st.makes.set (zae i).1.toNat true }) else (0,{ st with lays:=st.lays.set (zae i).1.toNat true })
 else (0,st)
structure JOK (C:Cont) (hs:List Hdr) (st:JS):Prop where
 makes:st.makes.length=C.subs.length
 lays:st.lays.length=C.subs.length
 calls:st.calls.length=C.codes.length
 hdrs:hs.length=C.codes.length
section
variable {w0:World} {K:Value→World→Prop} {jb gm gl gc:Nat} {hd:Cd} {C:Cont} {kind:Int} {R:List Ent} {s:Nat} {i:Ins} {bi lc gs:Nat} {lp:Option Addr} {ln:Nat} {ib:List (Ins × Nat)} {st0:List Bool}
theorem l96_1 {w:World} {p22:Option Addr} {n22 c22 x6:Nat} {ts:List Int} (hst:Sees w 1 (some ⟨gs,0,none⟩) st0.length st0.length (zbr st0)) (h22:Sees w 1 p22 n22 c22 (ints ts)) (hln:n22≤1000000000)
  (kb:badL st0.length st0 ts=true→K (.int .i64 63) w) (kg:badL st0.length st0 ts=false→J96_0 K (some ⟨jb,0,none⟩) (s:Int) ⟨x6,0,none⟩ w) :
  ∀ (m i:Nat),i+m=n22→badL st0.length st0 (ts.take i)=false→L96_1 K (m+1) (some ⟨jb,0,none⟩) (s:Int) (some ⟨gs,0,none⟩) st0.length st0.length ⟨x6,0,none⟩ p22 n22 c22 (n22:Int) (i:Int) w:=by
 have hlen:=h22.len
 rw [zbl] at hlen
 intro m
 induction m with
 | zero =>
  intro i hi hb
  unfold L96_1
  refine ifD (fun h=>by omega) fun _=>?_
  rw [List.take_of_length_le (by omega)] at hb
  exact kg hb
 | succ m ih =>
  intro i hi hb
  have hx:ts[i]? = some (ts[i]'(by omega)):=List.getElem?_eq_getElem (by omega)
  have htk:badL st0.length st0 (ts.take (i+1))=(decide (ts[i]'(by omega) < 0) || decide (ts[i]'(by omega) ≥ st0.length) || !(st0.getD (ts[i]'(by omega)).toNat false)):=by
   have:ts.take (i+1)=ts.take i++[ts[i]'(by omega)]:=by rw [List.take_add_one,hx];rfl
   unfold badL at hb ⊢
   rw [this,List.any_append,hb];simp
  have bad:badL st0.length st0 (ts.take (i+1))=true→badL st0.length st0 ts=true:=fun h=>by
   unfold badL at h ⊢
   rw [List.any_eq_true] at h ⊢
   obtain ⟨x,hx,h⟩:=h
   exact ⟨x,List.mem_of_mem_take hx,h⟩
  unfold L96_1
  refine ifD (fun _=>?_) fun h=>by omega
  refine rdI h22 (by with_unfolding_all rfl) (by with_unfolding_all rfl) (by omega) (by omega) fun x hx2=>?_
  simp only [Int.toNat_natCast,hx,Option.some.injEq] at hx2
  subst hx2
  refine ifD (fun h1=>kb (bad ?_)) fun h1=>ifD (fun h2=>kb (bad ?_)) fun h2=>?_
  ·rw [htk];simp [h1]
  ·rw [htk];simp [h2]
  ·refine rdBl hst (by with_unfolding_all rfl) (by with_unfolding_all rfl) (by omega) (by omega) fun b hb2=>?_
   have hg:st0.getD (ts[i]'(by omega)).toNat false=b:=by rw [List.getD_eq_getElem?_getD,hb2];rfl
   rw [hg] at htk
   cases b with
   | false=>exact zco (kb (bad (by rw [htk];simp)))
   | true =>
    refine zcj ?_
    rw [i64w (by omega) (by omega)]
    exact_mod_cast ih (i+1) (by omega) (by rw [htk];simp [h1,h2])
end
section
variable {w0:World} {K:Value→World→Prop} {jb gm gl gc:Nat} {hd:Cd} {C:Cont} {kind:Int} {R:List Ent} {s:Nat} {i:Ins} {bi lc gs:Nat} {lp:Option Addr} {ln:Nat} {ib:List (Ins × Nat)} {st0:List Bool}
theorem j96_3 {w:World} {hs:List Hdr} {st:JS} {x6 x11:Nat} {b:Bool} {vi:Value} {vt:Array Value} (hC:ContAt w0 hd C) (hj:JOK C hs st) (hb:b=true ↔ i.code=236∨i.code=238)
  (hh:Hp zan w0 w (.own x11 vt 52::.own x6 #[.int .i64 i.at_,.int .i64 i.code,vi,.int .i64 i.next] 70::JE jb gm gl gc hd C kind hs st R))
  (kk:∀ w',Hp zan w0 w' (JE jb gm gl gc hd C kind hs (if i.code=236∨i.code=238 then
  if (zae i).1 ≥ C.subs.length then ((85:Int),st) else
  if i.code=236 then (0,{ st with makes:=st.makes.set (zae i).1.toNat true }) else (0,{ st with lays:=st.lays.set (zae i).1.toNat true })
 else (0,st)).2 R)→K (.int .i64 (if i.code=236∨i.code=238 then
  if (zae i).1 ≥ C.subs.length then ((85:Int),st) else
  if i.code=236 then (0,{ st with makes:=st.makes.set (zae i).1.toNat true }) else (0,{ st with lays:=st.lays.set (zae i).1.toNat true })
 else (0,st)).1) w'):J96_3 K (some ⟨jb,0,none⟩) ⟨x6,0,none⟩ (zae i).1 b w:=by
 have hsn:=hC.subs.n
 have hnm:=zdk i
 unfold J96_3
 cases b with
 | false =>
  refine ifBf ?_
  have hc:¬ (i.code=236∨i.code=238):=fun h=>by have:=hb.2 h;cases this
  rw [if_neg hc] at kk
  exact kk _ (hh.sublist (by repeat (first|exact List.Sublist.refl _|apply List.Sublist.cons)))
 | true =>
  have hc:=hb.1 rfl
  rw [if_pos hc] at kk
  refine ifBt ?_
  repeat' first|(with_reducible first|refine kk_ ?_|refine nx hh ?_|refine allW fun w' hh=>?_|exact sd_|refine ifD (fun h2=>?_) (fun h2=>?_)|refine ifE (fun h3=>?_) (fun h3=>?_)|refine And.intro ?_ ?_|exact vr)|fail
  ·rw [if_pos (by omega)] at kk
   exact kk _ (hh.sublist (by repeat (first|exact List.Sublist.refl _|apply List.Sublist.cons)))
  ·rw [if_neg (by omega),if_pos h3] at kk
   refine wIxSt (cs:=zbr st.makes) hh (by repeat (first|exact Pos.here|apply Pos.there)) (by rw [zcy,hj.makes];omega) (by with_unfolding_all rfl) (by with_unfolding_all rfl) (by omega) (by omega) (by with_unfolding_all rfl) rfl rfl fun w' hh _=>?_
   rw [bools_set] at hh
   exact kk _ (hh.sublist (by repeat (first|exact List.Sublist.refl _|apply List.Sublist.cons)))
  ·rw [if_neg (by omega),if_neg h3] at kk
   refine wIxSt (cs:=zbr st.lays) hh (by repeat (first|exact Pos.here|apply Pos.there)) (by rw [zcy,hj.lays];omega) (by with_unfolding_all rfl) (by with_unfolding_all rfl) (by omega) (by omega) (by with_unfolding_all rfl) rfl rfl fun w' hh _=>?_
   rw [bools_set] at hh
   exact kk _ (hh.sublist (by repeat (first|exact List.Sublist.refl _|apply List.Sublist.cons)))
theorem f96 {w:World} {hs:List Hdr} {st:JS} (hC:ContAt w0 hd C) (hj:JOK C hs st) (hs1:s < C.types.length) (hct:C.types.length=C.codes.length) (hsz:0≤C.size∧C.size≤100000) (hIn:insE lp ln lc ib∈R) (hgs:Ent.own gs (zbr st0).toArray 4∈R) (hii:(i,bi)∈ib) (h0:0≤i.code) (h1:i.code < 256) (hil:i.imm.length≤600)
  (hcl:(st.calls.getD s []).length≤1000000000)
  (hh:Hp zan w0 w (JE jb gm gl gc hd C kind hs st R))
  (kk:∀ hs' w',JOK C hs' (zca C kind st0 s i st).2→Hp zan w0 w' (JE jb gm gl gc hd C kind hs' (zca C kind st0 s i st).2 R)→K (.int .i64 (zca C kind st0 s i st).1) w') :
  zaj Tryz.prog 96 #[.pointer (some ⟨jb,0,none⟩),.int .i64 (s:Int),.agg #[.int .i64 i.at_,.int .i64 i.code,.slice (some ⟨bi,0,none⟩) i.imm.length i.imm.length,.int .i64 i.next],.slice (some ⟨gs,0,none⟩) st0.length st0.length] w K:=by
 refine call96 _ _ _ _ _ _ _ _ _ _ _ _ _ ?_
 unfold F96
 have hnm:=zdk i
 have htn:=hC.tn
 have hcn:=hC.codes.n
 have key:∀ {w'} x hs',zca C kind st0 s i st=x→JOK C hs' x.2→Hp zan w0 w' (JE jb gm gl gc hd C kind hs' x.2 R)→K (.int .i64 x.1) w':=fun {w'} x hs' hx hjx hb=>by subst hx;exact kk hs' w' hjx hb
 with_reducible repeat' first|refine kk_ ?_|refine nx hh ?_|refine allW fun w' hh=>?_|exact sd_|refine ai ?_ ?_|exact vr|fail
 refine f136 (kB ?_)
 by_cases hbar:barsT i.code kind=true
 ·first|rw [hbar]|(dsimp only;rw [hbar])
  refine ifBt ?_
  exact key (80,st) hs (by rw [zca,if_pos hbar]) hj (hh.sublist (by repeat (first|exact List.Sublist.refl _|apply List.Sublist.cons)))
 first|rw [show barsT i.code kind=false by simpa using hbar]|(dsimp only;rw [show barsT i.code kind=false by simpa using hbar])
 refine ifBf ?_
 have e0:zca C kind st0 s i st=(if badL st0.length st0 (zas i)=true then (63,st) else
 if i.code=227∨i.code=229 then
  if (zae i).1 ≥ C.types.length then (81,st) else (goesT i.code (C.types.getD s ⟨0,0,0⟩) (tyAt C.types i),{ st with calls:=st.calls.set s (st.calls.getD s []++[(zae i).1]) })
 else if i.code=228 then (if (C.types.getD s ⟨0,0,0⟩).out=128 then 82 else 0,st)
 else if i.code=209 then (if (zae i).1+32 > C.size then 84 else 0,st)
 else if i.code=236∨i.code=238 then
  if (zae i).1 ≥ C.subs.length then (85,st) else
  if i.code=236 then (0,{ st with makes:=st.makes.set (zae i).1.toNat true }) else (0,{ st with lays:=st.lays.set (zae i).1.toNat true })
 else (0,st)):=by rw [zca,if_neg hbar]
 with_reducible repeat' first|refine kk_ ?_|refine nx hh ?_|refine allW fun w' hh=>?_|exact sd_|refine ai ?_ ?_|exact vr|fail
 have himm:Sees _ 1 (some ⟨bi,0,none⟩) i.imm.length i.imm.length (u8s i.imm):=(hh.on (S:=insS lp ib) (A:=fun w=>InsL w lp ln lc ib) (by repeat (first|exact hIn|apply List.mem_cons_of_mem))).holds.imms _ hii
 refine f40 h0 h1 himm (by omega) fun p' n' c' w4 hb4 hr hf=>?_
 replace hh:=hh.bl hb4
 have hll:=leadsT_len (i:=i) hil
 have hn':n'=(zas i).length:=by have:=hr.sees.len;rw [zbl] at this;omega
 refine kL ⟨n'+1,?_⟩
 have hst:Sees w4 1 (some ⟨gs,0,none⟩) st0.length st0.length (zbr st0):=Own.sees (hh.own (by repeat (first|exact hgs|apply List.mem_cons_of_mem))) (by rw [zcy])
 suffices hl:L96_1 K (n'+1) (some ⟨jb,0,none⟩) (s:Int) (some ⟨gs,0,none⟩) st0.length st0.length ⟨w.heap.size,0,none⟩ p' n' c' (n':Int) ((0:Nat):Int) w4 by exact_mod_cast hl
 refine l96_1 hst hr.sees (by omega) (fun hb=>?_) (fun hb=>?_) n' 0 (by omega) (by simp [badL])
 ·exact key (63,st) hs (by rw [e0,if_pos hb]) hj (hh.sublist (by repeat (first|exact List.Sublist.refl _|apply List.Sublist.cons)))
 rw [if_neg (by rw [hb];decide)] at e0
 unfold J96_0
 with_reducible repeat' first|refine kk_ ?_|refine nx hh ?_|refine allW fun w' hh=>?_|exact sd_|refine ai ?_ ?_|exact vr|fail
 refine rdTy (hC.types.bl hh.done) (by with_unfolding_all rfl) (by with_unfolding_all rfl) (by omega) (by omega) fun t ad ht c0 c1 c2=>?_
 simp only [Int.toNat_natCast] at ht
 have hget:C.types.getD s ⟨0,0,0⟩=t:=by rw [List.getD_eq_getElem?_getD,ht];rfl
 rw [hget] at e0
 repeat' first|(with_reducible first|refine kk_ ?_|refine nx hh ?_|refine allW fun w' hh=>?_|exact sd_|refine ld c0 ?_|refine ld c1 ?_|refine ld c2 ?_|refine And.intro ?_ ?_|exact vr)|fail
 have himm2:Sees _ 1 (some ⟨bi,0,none⟩) i.imm.length i.imm.length (u8s i.imm):=(hh.on (S:=insS lp ib) (A:=fun w=>InsL w lp ln lc ib) (by repeat (first|exact hIn|apply List.mem_cons_of_mem))).holds.imms _ hii
 refine f37 h0 h1 himm2 (by omega) fun w5 hb5=>?_
 replace hh:=hh.bl hb5
 have J2:∀ (b:Bool) {w' x6 x11},(b=true ↔ i.code=227∨i.code=229)→Hp zan w0 w' (.own x11 #[.int .i64 t.inn,.int .i64 t.out,.int .i64 t.most] 52::.own x6 #[.int .i64 i.at_,.int .i64 i.code,.slice (some ⟨bi,0,none⟩) i.imm.length i.imm.length,.int .i64 i.next] 70::JE jb gm gl gc hd C kind hs st R) →
   J96_2 K (some ⟨jb,0,none⟩) (s:Int) ⟨x6,0,none⟩ ⟨x11,0,none⟩ (zae i).1 i.code b w':=by
  intro b w' x6 x11 hbb hh
  unfold J96_2
  cases b with
  | false =>
   have hc:¬ (i.code=227∨i.code=229):=fun h=>by have:=hbb.2 h;cases this
   rw [if_neg hc] at e0
   refine ifBf (ifE (fun h2=>?_) fun h2=>?_)
   ·rw [if_pos h2] at e0
    repeat' first|(with_reducible first|refine kk_ ?_|refine nx hh ?_|refine allW fun w' hh=>?_|exact sd_|refine ifE (fun h3=>?_) (fun h3=>?_)|refine And.intro ?_ ?_|exact vr)|fail
    ·exact key (82,st) hs (by rw [e0,if_pos h3]) hj (hh.sublist (by repeat (first|exact List.Sublist.refl _|apply List.Sublist.cons)))
    ·exact key (0,st) hs (by rw [e0,if_neg h3]) hj (hh.sublist (by repeat (first|exact List.Sublist.refl _|apply List.Sublist.cons)))
   rw [if_neg h2] at e0
   refine ifE (fun h3=>?_) fun h3=>?_
   ·rw [if_pos h3] at e0
    with_reducible repeat' first|refine kk_ ?_|refine nx hh ?_|refine allW fun w' hh=>?_|exact sd_|refine ai ?_ ?_|exact vr|fail
    first|rw [i64w (by omega) (by omega)]|(dsimp only;rw [i64w (by omega) (by omega)])
    refine ifD (fun h4=>?_) fun h4=>?_
    ·exact key (84,st) hs (by rw [e0,if_pos h4]) hj (hh.sublist (by repeat (first|exact List.Sublist.refl _|apply List.Sublist.cons)))
    ·exact key (0,st) hs (by rw [e0,if_neg h4]) hj (hh.sublist (by repeat (first|exact List.Sublist.refl _|apply List.Sublist.cons)))
   rw [if_neg h3] at e0
   have hend:∀ (b:Bool),(b=true ↔ i.code=236∨i.code=238)→J96_3 K (some ⟨jb,0,none⟩) ⟨x6,0,none⟩ (zae i).1 b w':=fun b hb=>by
    refine j96_3 hC hj hb hh fun w' hh=>key _ hs e0 ?_ hh
    repeat' split
    all_goals first
     | exact hj
     | exact ⟨by simpa using hj.makes,hj.lays,hj.calls,hj.hdrs⟩
     | exact ⟨hj.makes,by simpa using hj.lays,hj.calls,hj.hdrs⟩
   refine ifE (fun h4=>hend _ (by simp [h4])) fun h4=>hend _ (by simp [h4])
  | true =>
   have hc:=hbb.1 rfl
   rw [if_pos hc] at e0
   refine ifBt ?_
   repeat' first|(with_reducible first|refine kk_ ?_|refine nx hh ?_|refine allW fun w' hh=>?_|exact sd_|refine ifD (fun h2=>?_) (fun h2=>?_)|refine And.intro ?_ ?_|exact vr)|fail
   ·exact key (81,st) hs (by rw [e0,if_pos (by omega)]) hj (hh.sublist (by repeat (first|exact List.Sublist.refl _|apply List.Sublist.cons)))
   rw [if_neg (by omega)] at e0
   have hsl:s < hs.length:=by rw [hj.hdrs];omega
   have hscl:s < st.calls.length:=by rw [hj.calls];omega
   have g1:hs[s]? = some (hs[s]'hsl):=List.getElem?_eq_getElem hsl
   have g2:st.calls[s]? = some (st.calls[s]'hscl):=List.getElem?_eq_getElem hscl
   have g3:st.calls.getD s []=st.calls[s]'hscl:=by rw [List.getD_eq_getElem?_getD,g2];rfl
   rw [g3] at hcl e0
   generalize hhx:hs[s]'hsl=h at g1
   generalize hlx:st.calls[s]'hscl=l at g2 hcl e0
   have g4:(st.calls.map ints)[s]? = some (ints l):=by rw [List.getElem?_map,g2];rfl
   have hrows:RowsAt _ gc 29 3 hs (st.calls.map ints):=(hh.our (S:=rowsS gc hs) (A:=fun w=>RowsAt w gc 29 3 hs (st.calls.map ints)) (by repeat (first|exact m0|apply mS))).holds
   have hap:=hrows.apart
   have hhl:h.n=l.length:=by have:=(hrows.row s h _ g1 g4).len;rw [zbl] at this;omega
   replace hh:=(hh.front (x:=rowsE gc 29 3 hs (st.calls.map ints)) (by repeat (first|exact Pick.here|apply Pick.there))).rowOut g1 g4
   have gcell:(hs.map Hdr.v).toArray[s]? = some h.v:=by simp [g1]
   refine zdo (z:=1) (by with_unfolding_all rfl) (by with_unfolding_all rfl) (by omega) ?_
   rw [Nat.mul_one]
   repeat' first|(with_reducible first|refine kk_ ?_|refine nx hh ?_|refine allW fun w' hh=>?_|exact sd_|refine ldO (hh.own (b:=gc) (cs:=(hs.map Hdr.v).toArray) (t:=29) (by repeat (first|exact m0|apply mS))) gcell ?_)|((with_reducible refine appH hh (by with_unfolding_all rfl) (by with_unfolding_all rfl) (by with_unfolding_all rfl) (by with_unfolding_all rfl) (by with_unfolding_all rfl) (by with_unfolding_all rfl) (by with_unfolding_all rfl) (by omega) (by with_unfolding_all rfl) fun g9 cap9 w4 hh=>?_);(replace hh:=hh.tail))|(with_reducible first|refine And.intro ?_ ?_|exact vr)|fail
   refine zdo (z:=1) (by with_unfolding_all rfl) (by with_unfolding_all rfl) (by omega) ?_
   first|rw [Nat.mul_one]|(dsimp only;rw [Nat.mul_one])
   refine kA ?_
   refine stOne (cs:=hs.map Hdr.v) hh (by repeat (first|exact Pos.here|apply Pos.there)) (by simpa using hsl) (by with_unfolding_all rfl) rfl rfl fun w7 hh _=>?_
   with_reducible repeat' first|refine kk_ ?_|refine nx hh ?_|refine allW fun w' hh=>?_|exact sd_|refine ai ?_ ?_|exact vr|fail
   refine rdTy (hC.types.bl hh.done) (by with_unfolding_all rfl) (by with_unfolding_all rfl) (by omega) (by omega) fun t' ad' ht' d0 d1 d2=>?_
   have hget':tyAt C.types i=t':=by unfold tyAt;rw [List.getD_eq_getElem?_getD,ht'];rfl
   rw [hget'] at e0
   repeat' first|(with_reducible first|refine kk_ ?_|refine nx hh ?_|refine allW fun w' hh=>?_|exact sd_|refine ld d0 ?_|refine ld d1 ?_|refine ld d2 ?_|refine And.intro ?_ ?_|exact vr)|fail
   refine f137 fun w8 hb8=>?_
   replace hh:=hh.bl hb8
   have e1:ints l++#[Value.int .i64 (zae i).1].toList=ints (l++[(zae i).1]):=by simp [ints]
   rw [e1] at hh
   have hh2:=Hp.rowIn (h':=⟨some ⟨g9,0,none⟩,h.n+1,cap9⟩) (((hh.front (x:=restE 3 hs (st.calls.map ints) s) (by repeat (first|exact Pick.here|apply Pick.there))).front (x:=.row 1 (some ⟨g9,0,none⟩) (h.n+1) cap9 3 (ints (l++[(zae i).1]))) (by repeat (first|exact Pick.here|apply Pick.there))).front (x:=.own gc _ 29) (by repeat (first|exact Pick.here|apply Pick.there))) hsl (by rw [List.length_map,hj.hdrs,hj.calls]) hap
   have e2:(st.calls.map ints).set s (ints (l++[(zae i).1]))=(st.calls.set s (l++[(zae i).1])).map ints:=by rw [List.map_set]
   rw [e2] at hh2
   have hh3:=((hh2.front (x:=.own gl (zbr st.lays).toArray 4) (by repeat (first|exact Pick.here|apply Pick.there))).front (x:=.own gm (zbr st.makes).toArray 4) (by repeat (first|exact Pick.here|apply Pick.there))).front (x:=.own jb _ 143) (by repeat (first|exact Pick.here|apply Pick.there))
   refine kI ?_
   refine key _ (hs.set s ⟨some ⟨g9,0,none⟩,h.n+1,cap9⟩) e0 ⟨hj.makes,hj.lays,by simpa using hj.calls,by simpa using hj.hdrs⟩ (hh3.sublist (List.Sublist.cons_cons _ (List.Sublist.cons_cons _ (List.Sublist.cons_cons _ (List.Sublist.cons_cons _ (by repeat (first|exact List.Sublist.refl _|apply List.Sublist.cons)))))))
 with_reducible repeat' first|refine kk_ ?_|refine nx hh ?_|refine allW fun w' hh=>?_|exact sd_|refine ai ?_ ?_|exact vr|fail
 refine ifE (fun h2=>J2 _ (by simp [h2]) hh) fun h2=>J2 _ (by simp [h2]) hh
end
structure CheckP (C:Cont):Prop where
 c0:0 < C.codes.length
 c1:C.codes.length≤1024
 ct:C.types.length=C.codes.length
 cl:∀ l∈C.codes,0 < l.length∧l.length≤65535
 s1:C.subs.length≤256
 sl:∀ l∈C.subs,0 < l.length
 z1:C.size≤65535
 zd:(C.data.length:Int)≤C.size
 ty:∀ t∈C.types,TyOK t
theorem partsT_zero {m:Int}:∀ {l:List (List UInt8)},partsT m l=0→∀ x∈l,0 < x.length∧(x.length:Int)≤m
 | [],_,x,h=>by cases h
 | y::l,h,x,hx=>by
  rw [partsT] at h
  split at h
  ·cases h
  split at h
  ·cases h
  ·rcases List.mem_cons.1 hx with h1|h1
   ·subst h1;omega
   ·exact partsT_zero h x h1
theorem checkP {C:Cont} (h:zbo C=0):CheckP C:=by
 unfold zbo at h
 split at h
 ·cases h
 split at h
 ·cases h
 split at h
 ·cases h
 split at h
 ·contradiction
 split at h
 ·cases h
 split at h
 ·contradiction
 split at h
 ·cases h
 split at h
 ·cases h
 split at h
 ·rename_i h1 h2 h3 h4 h5 h6 h7 h8 h9
  have h4':partsT 65535 C.codes=0:=by simpa using h4
  have h6':partsT 4294967295 C.subs=0:=by simpa using h6
  refine ⟨by omega,by omega,by omega,fun l hl=>?_,by omega,fun l hl=>(partsT_zero h6' l hl).1,by omega,by omega,fun t ht=>?_⟩
  ·have:=partsT_zero h4' l hl;omega
  ·unfold typesFit at h9
   rw [List.all_eq_true] at h9
   obtain ⟨j,hj,hjt⟩:=List.getElem_of_mem ht
   have:=h9 j (by rw [List.mem_range];exact hj)
   have hg:C.types.getD j ⟨0,0,0⟩=t:=by rw [List.getD_eq_getElem?_getD,List.getElem?_eq_getElem hj,hjt];rfl
   rw [hg] at this
   unfold fitT fitIn zdr zdp at this
   simp only [Bool.and_eq_true,decide_eq_true_eq] at this
   unfold TyOK
   omega
 ·cases h
def zbv (C:Cont) (kind:Int) (st0:List Bool) (s:Nat):List Ins→JS→Int × JS
 | [],st=>(0,st)
 | i::r,st=>if (zca C kind st0 s i st).1≠0 then zca C kind st0 s i st else zbv C kind st0 s r (zca C kind st0 s i st).2
def retP (C:Cont) (i:Ins):Bool:=i.code == 228 || (i.code == 229 && (tyAt C.types i).out != 128)
def zba (C:Cont) (kind:Int) (s:Nat) (st:JS):Int × JS :=
 match zdz (C.codes.getD s []) with
 | .error x=>(x.1,st)
 | .ok d =>
  if (zbv C kind (zbj (C.codes.getD s [])) s d st).1≠0 then zbv C kind (zbj (C.codes.getD s [])) s d st else
  (match zbb C.types s (C.codes.getD s []) with
  | .error x=>x.1
  | .ok hs=>if mostT hs≠(C.types.getD s ⟨0,0,0⟩).most then 75 else if (C.types.getD s ⟨0,0,0⟩).out≠128∧(d.any fun i=>retP C i)=false then 86 else 0,(zbv C kind (zbj (C.codes.getD s [])) s d st).2)
theorem namesT_len {C : Cont} {kind : Int} {st0 : List Bool} {s : Nat} {i : Ins} {st : JS} : ((zca C kind st0 s i st).2.calls.getD s []).length ≤ (st.calls.getD s []).length + 1 := by
  unfold zca
  repeat' split
  all_goals simp only
  all_goals first
    | omega
    | (by_cases hs : s < st.calls.length
       · rw [List.getD_eq_getElem?_getD, List.getElem?_set_self hs]; simp
       · rw [List.set_eq_of_length_le (by omega)]; omega)
theorem namesT_named {C:Cont} {kind:Int} {st0:List Bool} {s:Nat} {i:Ins} {st:JS} (h:(zca C kind st0 s i st).1=0) (hc:i.code=227∨i.code=229):(zae i).1 < C.types.length:=by
 unfold zca at h
 split at h
 ·cases h
 split at h
 ·cases h
 split at h
 ·cases h
 ·omega
section
variable {w0:World} {K:Value→World→Prop} {jb gm gl gc:Nat} {hd:Cd} {C:Cont} {kind:Int} {R:List Ent} {s:Nat} {p6:Option Addr} {n6 c6:Nat}
theorem l65_1 {gs ln lc:Nat} {lp:Option Addr} {ib:List (Ins × Nat)} {st0:List Bool} (hC:ContAt w0 hd C) (hK:CheckP C) (hs1:s < C.types.length) (hin:∀ x∈ib,0≤x.1.code∧x.1.code < 256∧x.1.imm.length≤600) (hln:ln≤1000000) (hz0:0≤C.size) :
  ∀ (q k:Nat) (b:Bool) (hs:List Hdr) (st:JS) (w:World),k+q=ln→JOK C hs st→(st.calls.getD s []).length≤k→Hp zan w0 w (JE jb gm gl gc hd C kind hs st (insE lp ln lc ib::.own gs (zbr st0).toArray 4::R)) →
   ((zbv C kind st0 s ((ib.drop k).map (·.1)) st).1≠0→∀ hs' a w',JOK C hs' (zbv C kind st0 s ((ib.drop k).map (·.1)) st).2→Hp zan w0 w' (JE jb gm gl gc hd C kind hs' (zbv C kind st0 s ((ib.drop k).map (·.1)) st).2 R)→K (.tuple #[.int .i64 (zbv C kind st0 s ((ib.drop k).map (·.1)) st).1,.int .i64 a]) w') →
   ((zbv C kind st0 s ((ib.drop k).map (·.1)) st).1=0→∀ hs' w',JOK C hs' (zbv C kind st0 s ((ib.drop k).map (·.1)) st).2→Hp zan w0 w' (JE jb gm gl gc hd C kind hs' (zbv C kind st0 s ((ib.drop k).map (·.1)) st).2 R)→J65_0 K (some ⟨jb,0,none⟩) (s:Int) p6 n6 c6 (b || ((ib.drop k).any fun x=>retP C x.1)) w') →
   L65_1 K (q+1) (some ⟨jb,0,none⟩) (s:Int) p6 n6 c6 (some ⟨gs,0,none⟩) st0.length st0.length b lp ln lc (ln:Int) (k:Int) w:=by
 have htn:=hC.tn
 intro q
 induction q with
 | zero =>
  intro k b hs st w hk hj hcl hh kb kg
  have hil:=(hh.on (S:=insS lp ib) (A:=fun w=>InsL w lp ln lc ib) (by repeat (first|exact m0|apply mS))).holds
  have hl:=hil.len
  unfold L65_1
  refine ifD (fun h=>by omega) fun _=>?_
  have hd:ib.drop k=[]:=List.drop_of_length_le (by omega)
  rw [hd] at kg
  have:=kg rfl hs w hj (hh.sublist (List.Sublist.cons_cons _ (List.Sublist.cons_cons _ (List.Sublist.cons_cons _ (List.Sublist.cons_cons _ (by repeat (first|exact List.Sublist.refl _|apply List.Sublist.cons)))))))
  simpa using this
 | succ q ih =>
  intro k b hs st w hk hj hcl hh kb kg
  have hil:=(hh.on (S:=insS lp ib) (A:=fun w=>InsL w lp ln lc ib) (by repeat (first|exact m0|apply mS))).holds
  have hl:=hil.len
  unfold L65_1
  refine ifD (fun _=>?_) fun h=>by omega
  refine rdIns hil (by with_unfolding_all rfl) (by with_unfolding_all rfl) (by omega) (by omega) fun x ad hx d0 d1 d2 d3 hsee=>?_
  simp only [Int.toNat_natCast] at hx
  have hxm:=List.mem_of_getElem? hx
  obtain ⟨i,bi⟩:=x
  obtain ⟨q0,q1,q2⟩:=hin _ hxm
  simp only at d0 d1 d2 d3 hsee q0 q1 q2
  have hdr:ib.drop k=(i,bi)::ib.drop (k+1):=by
   have hlt:k < ib.length:=by omega
   rw [List.getElem?_eq_getElem hlt] at hx
   rw [← Option.some.inj hx]
   exact List.drop_eq_getElem_cons hlt
  rw [hdr] at kb kg
  simp only [List.map_cons,zbv,List.any_cons] at kb kg
  have hnl:=namesT_len (C:=C) (kind:=kind) (st0:=st0) (s:=s) (i:=i) (st:=st)
  repeat' first|(with_reducible first|refine kk_ ?_|refine nx hh ?_|refine allW fun w' hh=>?_|exact sd_|refine ld d0 ?_|refine ld d1 ?_|refine ld d2 ?_|refine ld d3 ?_|refine And.intro ?_ ?_|exact vr)|fail
  have hh2:=(((hh.front (x:=rowsE gc 29 3 hs (st.calls.map ints)) (by repeat (first|exact Pick.here|apply Pick.there))).front (x:=.own gl (zbr st.lays).toArray 4) (by repeat (first|exact Pick.here|apply Pick.there))).front (x:=.own gm (zbr st.makes).toArray 4) (by repeat (first|exact Pick.here|apply Pick.there))).front (x:=.own jb _ 143) (by repeat (first|exact Pick.here|apply Pick.there))
  clear hh
  refine f96 (i:=i) (bi:=bi) (lp:=lp) (ln:=ln) (lc:=lc) (ib:=ib) (st0:=st0) hC hj hs1 hK.ct ⟨hz0,by have:=hK.z1;omega⟩ (by repeat (first|exact m0|apply mS)) (by repeat (first|exact m0|apply mS)) hxm q0 q1 q2 (by omega) hh2 fun hs' w1 hj1 hh=>?_
  refine kI ?_
  by_cases hn:(zca C kind st0 s i st).1=0
  ·rw [if_neg (fun h=>h hn)] at kb kg
   refine ifNe (fun h=>absurd hn h) fun _=>?_
   with_reducible repeat' first|refine kk_ ?_|refine nx hh ?_|refine allW fun w' hh=>?_|exact sd_|refine ai ?_ ?_|exact vr|fail
   have himm2:Sees _ 1 (some ⟨bi,0,none⟩) i.imm.length i.imm.length (u8s i.imm):=((hh.on (S:=insS lp ib) (A:=fun w=>InsL w lp ln lc ib) (by repeat (first|exact m0|apply mS))).holds.imms _ hxm)
   refine f37 q0 q1 himm2 (by omega) fun w5 hb5=>?_
   replace hh:=hh.bl hb5
   have next:∀ (b':Bool) {w'},(b'=(b || retP C i))→Hp zan w0 w' (JE jb gm gl gc hd C kind hs' (zca C kind st0 s i st).2 (insE lp ln lc ib::.own gs (zbr st0).toArray 4::R))→J65_2 K (L65_1 K (q+1)) (some ⟨jb,0,none⟩) (s:Int) p6 n6 c6 (some ⟨gs,0,none⟩) st0.length st0.length b' lp ln lc (ln:Int) (k:Int) w':=by
    intro b' w' hbb hh
    unfold J65_2
    first|rw [i64w (by omega) (by omega)]|(dsimp only;rw [i64w (by omega) (by omega)])
    subst hbb
    have:=ih (k+1) (b || retP C i) hs' _ w' (by omega) hj1 (by omega) hh kb (fun h hs2 w2 hj2 hh2=>by have:=kg h hs2 w2 hj2 hh2;rw [Bool.or_assoc];exact this)
    exact_mod_cast this
   repeat' first|(with_reducible first|refine kk_ ?_|refine nx hh ?_|refine allW fun w' hh=>?_|exact sd_|refine ifE (fun h2=>?_) (fun h2=>?_)|refine And.intro ?_ ?_|exact vr)|fail
   ·exact next true (by simp [retP,h2]) (hh.sublist (List.Sublist.cons_cons _ (List.Sublist.cons_cons _ (List.Sublist.cons_cons _ (List.Sublist.cons_cons _ (by repeat (first|exact List.Sublist.refl _|apply List.Sublist.cons)))))))
   ·rename_i h3
    have hne:¬ i.code=228:=by assumption
    have e1:(i.code == 228)=false:=by simpa using hne
    have hnm:=namesT_named hn (.inr h2)
    have hn0:=zdk i
    refine rdTy (hC.types.bl hh.done) (by with_unfolding_all rfl) (by with_unfolding_all rfl) (by omega) (by omega) fun t ad ht c0 c1 c2=>?_
    have hget:tyAt C.types i=t:=by unfold tyAt;rw [List.getD_eq_getElem?_getD,ht];rfl
    repeat' first|(with_reducible first|refine kk_ ?_|refine nx hh ?_|refine allW fun w' hh=>?_|exact sd_|refine ld c1 ?_|refine ifNe (fun h4=>?_) (fun h4=>?_)|refine And.intro ?_ ?_|exact vr)|fail
    ·exact next true (by unfold retP;rw [hget,e1];simp [h2,h4]) (hh.sublist (List.Sublist.cons_cons _ (List.Sublist.cons_cons _ (List.Sublist.cons_cons _ (List.Sublist.cons_cons _ (by repeat (first|exact List.Sublist.refl _|apply List.Sublist.cons)))))))
    ·exact next b (by unfold retP;rw [hget,e1];simp [h2,h4]) (hh.sublist (List.Sublist.cons_cons _ (List.Sublist.cons_cons _ (List.Sublist.cons_cons _ (List.Sublist.cons_cons _ (by repeat (first|exact List.Sublist.refl _|apply List.Sublist.cons)))))))
   ·refine next b ?_ (hh.sublist (List.Sublist.cons_cons _ (List.Sublist.cons_cons _ (List.Sublist.cons_cons _ (List.Sublist.cons_cons _ (by repeat (first|exact List.Sublist.refl _|apply List.Sublist.cons)))))))
    have e1:(i.code == 228)=false:=by simp;assumption
    have e2:(i.code == 229)=false:=by simp;assumption
    simp [retP,e1,e2]
  ·rw [if_pos hn] at kb kg
   refine ifNe (fun _=>?_) fun h=>absurd h hn
   with_reducible repeat' first|refine kk_ ?_|refine nx hh ?_|refine allW fun w' hh=>?_|exact sd_|refine ai ?_ ?_|exact vr|fail
   exact kb hn hs' _ _ hj1 (hh.sublist (List.Sublist.cons_cons _ (List.Sublist.cons_cons _ (List.Sublist.cons_cons _ (List.Sublist.cons_cons _ (by repeat (first|exact List.Sublist.refl _|apply List.Sublist.cons)))))))
end
section
variable {w0:World} {K:Value→World→Prop} {jb gm gl gc:Nat} {hd:Cd} {C:Cont} {kind:Int} {R:List Ent} {s:Nat} {p6:Option Addr} {n6 c6:Nat}
theorem hGo_err {ts:List Ty} {own:Ty} {d:List Ins}:∀ {r:List Ins} {n:Nat} {hv:List (Int × Int)} {met:List Bool} {e a:Int},hGo ts own d r n hv met = .error (e,a)→(e != 0)=true
 | [],_,hv,met,e,a,h=>by simp [hGo] at h
 | i::r,n,hv,met,e,a,h=>by
  unfold hGo at h
  split at h
  ·cases h;rfl
  split at h
  ·rename_i hw
   cases h
   simpa using hw
  split at h
  ·exact hGo_err h
  ·cases h;rfl
theorem heightsT_err {ts:List Ty} {s:Int} {l:List UInt8} {e a:Int} (h:zbb ts s l = .error (e,a)):(e != 0)=true:=by
 unfold zbb at h
 split at h
 ·cases h;rfl
 ·split at h
  ·rename_i x hx
   cases h
   exact hGo_err hx
  ·cases h
theorem hts_len {ts:List Ty} {s:Int} {l:List UInt8} {hs:List Ty} (h:zbb ts s l = .ok hs):hs.length≤l.length:=by
 unfold zbb at h
 cases hr:zcw ts s l with
 | none=>rw [hr] at h;cases h
 | some x =>
  obtain ⟨own,d⟩:=x
  rw [hr] at h
  simp only at h
  have:=(rightP hr).2
  have hal:=zdm l
  split at h
  ·cases h
  ·cases h
   unfold htsT
   rw [List.length_zipWith]
   rw [this] at *
   omega
theorem j65_0 {w:World} {l:List UInt8} {hs:List Hdr} {st:JS} {b:Bool} (hC:ContAt w0 hd C) (hK:CheckP C) (hs1:s < C.types.length) (hcode:Sees w0 1 p6 n6 c6 (u8s l)) (hl:l.length≤65535)
  (hh:Hp zan w0 w (JE jb gm gl gc hd C kind hs st R))
  (kk:∀ a w',Hp zan w0 w' (JE jb gm gl gc hd C kind hs st R)→K (.tuple #[.int .i64 (match zbb C.types s l with
  | .error x=>x.1
  | .ok hs=>if mostT hs≠(C.types.getD s ⟨0,0,0⟩).most then 75 else if (C.types.getD s ⟨0,0,0⟩).out≠128∧b=false then 86 else 0),.int .i64 a]) w'):J65_0 K (some ⟨jb,0,none⟩) (s:Int) p6 n6 c6 b w:=by
 have htn:=hC.tn
 have h1:=hK.c1
 have h2:=hK.ct
 have key:∀ e a w',(match zbb C.types s l with
  | .error x=>x.1
  | .ok hs=>if mostT hs≠(C.types.getD s ⟨0,0,0⟩).most then 75 else if (C.types.getD s ⟨0,0,0⟩).out≠128∧b=false then 86 else 0)=e→Hp zan w0 w' (JE jb gm gl gc hd C kind hs st R)→K (.tuple #[.int .i64 e,.int .i64 a]) w':=fun e a w' he hh=>he ▸ kk a w' hh
 unfold J65_0
 with_reducible repeat' first|refine kk_ ?_|refine nx hh ?_|refine allW fun w' hh=>?_|exact sd_|refine ai ?_ ?_|exact vr|fail
 refine f97 (hC.types.bl hh.done) (by omega) (hcode.bl hh.done) (by omega) (fun e a he w1 hb=>?_) (fun hts he q m cap w1 hb hm hrow hf=>?_)
 ·replace hh:=hh.bl hb
  unfold scanV
  have hne:(e != 0)=true:=heightsT_err he
  with_reducible repeat' first|refine kk_ ?_|refine nx hh ?_|refine allW fun w' hh=>?_|exact sd_|refine ai ?_ ?_|exact vr|fail
  refine rdTy (hC.types.bl hh.done) (by with_unfolding_all rfl) (by with_unfolding_all rfl) (by omega) (by omega) fun t ad ht c0 c1 c2=>?_
  repeat' first|(with_reducible first|refine kk_ ?_|refine nx hh ?_|refine allW fun w' hh=>?_|exact sd_|refine ld c0 ?_|refine ld c1 ?_|refine ld c2 ?_|refine And.intro ?_ ?_|exact vr)|fail
  first|rw [hne]|(dsimp only;rw [hne])
  refine ifBt ?_
  exact key _ _ _ (by rw [he]) (hh.sublist (by repeat (first|exact List.Sublist.refl _|apply List.Sublist.cons)))
 ·replace hh:=rowSee (rowFact hh hb hrow hf)
  have hlen:=hts_len he
  with_reducible repeat' first|refine kk_ ?_|refine nx hh ?_|refine allW fun w' hh=>?_|exact sd_|refine ai ?_ ?_|exact vr|fail
  refine rdTy (hC.types.bl hh.done) (by with_unfolding_all rfl) (by with_unfolding_all rfl) (by omega) (by omega) fun t ad ht c0 c1 c2=>?_
  simp only [Int.toNat_natCast] at ht
  have hget:C.types.getD s ⟨0,0,0⟩=t:=by rw [List.getD_eq_getElem?_getD,ht];rfl
  rw [he,hget] at key
  repeat' first|(with_reducible first|refine kk_ ?_|refine nx hh ?_|refine allW fun w' hh=>?_|exact sd_|refine ld c0 ?_|refine ld c1 ?_|refine ld c2 ?_|refine And.intro ?_ ?_|exact vr)|fail
  refine ifBf ?_
  with_reducible repeat' first|refine kk_ ?_|refine nx hh ?_|refine allW fun w' hh=>?_|exact sd_|refine ai ?_ ?_|exact vr|fail
  refine f98 (hh.sees (SeeIn.pos (p:=q) (n:=m) (c:=cap))) (by omega) fun w9 hb9=>?_
  replace hh:=hh.bl hb9
  repeat' first|(with_reducible first|refine kk_ ?_|refine nx hh ?_|refine allW fun w' hh=>?_|exact sd_|refine ifNe (fun h3=>?_) (fun h3=>?_)|refine And.intro ?_ ?_|exact vr)|fail
  ·exact key 75 0 _ (by simp only;rw [if_pos h3]) (hh.sublist (by repeat (first|exact List.Sublist.refl _|apply List.Sublist.cons)))
  ·have hm2:mostT hts=t.most:=by assumption
   cases b with
   | false =>
    refine zco ?_
    exact key 86 0 _ (by simp only;rw [if_neg (by simpa using hm2),if_pos ⟨h3,trivial⟩]) (hh.sublist (by repeat (first|exact List.Sublist.refl _|apply List.Sublist.cons)))
   | true =>
    refine zcj ?_
    exact key 0 0 _ (by simp only;rw [if_neg (by simpa using hm2),if_neg (by simp)]) (hh.sublist (by repeat (first|exact List.Sublist.refl _|apply List.Sublist.cons)))
  ·have hm2:mostT hts=t.most:=by assumption
   exact key 0 0 _ (by simp only;rw [if_neg (by simpa using hm2),if_neg (by intro h;exact h.1 h3)]) (hh.sublist (by repeat (first|exact List.Sublist.refl _|apply List.Sublist.cons)))
theorem f65 {w:World} {hs:List Hdr} {st:JS} (hC:ContAt w0 hd C) (hK:CheckP C) (hs1:s < C.codes.length) (hj:JOK C hs st) (hcl:st.calls.getD s []=[])
  (hh:Hp zan w0 w (JE jb gm gl gc hd C kind hs st R))
  (kk:∀ a hs' w',JOK C hs' (zba C kind s st).2→Hp zan w0 w' (JE jb gm gl gc hd C kind hs' (zba C kind s st).2 R)→K (.tuple #[.int .i64 (zba C kind s st).1,.int .i64 a]) w') :
  zaj Tryz.prog 65 #[.pointer (some ⟨jb,0,none⟩),.int .i64 (s:Int)] w K:=by
 refine call65 _ _ _ _ ?_
 unfold F65
 have hcn:=hC.codes.n
 have hct:=hK.ct
 have key:∀ x hs' a w',zba C kind s st=x→JOK C hs' x.2→Hp zan w0 w' (JE jb gm gl gc hd C kind hs' x.2 R)→K (.tuple #[.int .i64 x.1,.int .i64 a]) w':=fun x hs' a w' hx hj hh=>by subst hx;exact kk a hs' w' hj hh
 with_reducible repeat' first|refine kk_ ?_|refine nx hh ?_|refine allW fun w' hh=>?_|exact sd_|refine ai ?_ ?_|exact vr|fail
 refine rdBy (hC.codes.bl hh.done) (by with_unfolding_all rfl) (by with_unfolding_all rfl) (by omega) (by omega) fun xh l hxh hxl hsee=>?_
 simp only [Int.toNat_natCast] at hxh hxl
 have hsee0:=hC.codes.each s xh l hxh hxl
 have hlm:=hK.cl l (List.mem_of_getElem? hxl)
 have hget:C.codes.getD s []=l:=by rw [List.getD_eq_getElem?_getD,hxl];rfl
 have hn:=hsee0.bytes
 refine f94 hsee (by omega) (fun e a he w1 hb=>?_) (fun d hdd p n c ib w1 hb hib hil hnew=>?_)
 ·replace hh:=hh.bl hb
  unfold scanV
  have hne:=scanT_err he
  with_reducible repeat' first|refine kk_ ?_|refine nx hh ?_|refine allW fun w' hh=>?_|exact sd_|refine ai ?_ ?_|exact vr|fail
  first|rw [hne]|(dsimp only;rw [hne])
  refine ifBt ?_
  exact key (e,st) hs a _ (by rw [zba,hget,he]) hj hh
 ·obtain ⟨hda,hdne,_⟩:=scanT_ok hdd
  have hal:=zdm l
  have hin:=hil.len
  have hibl:ib.length=(allT l).length:=by rw [← hda,← hib];simp
  have hh2:Hp zan w0 w1 (insE p n c ib::JE jb gm gl gc hd C kind hs st R):=hh.add (x:=insE p n c ib) hb (insE_on hil) hnew
  clear hh
  have hh:=hh2
  with_reducible repeat' first|refine kk_ ?_|refine nx hh ?_|refine allW fun w' hh=>?_|exact sd_|refine ai ?_ ?_|exact vr|fail
  refine ifBf ?_
  refine f95 (hsee0.bl hh.done) (by omega) fun gs w2 hb2 hgs hown=>?_
  replace hh:=hh.add (x:=.own gs (zbr (zbj l)).toArray 4) hb2 hown fun i hi=>by have hi:i=gs:=hi;omega
  have hsl:(zbj l).length=xh.n:=by unfold zbj;rw [startsF_len];exact hn.symm
  replace hh:=(((((hh.front (x:=insE p n c ib) (by repeat (first|exact Pick.here|apply Pick.there))).front (x:=rowsE gc 29 3 hs (st.calls.map ints)) (by repeat (first|exact Pick.here|apply Pick.there))).front (x:=.own gl (zbr st.lays).toArray 4) (by repeat (first|exact Pick.here|apply Pick.there))).front (x:=.own gm (zbr st.makes).toArray 4) (by repeat (first|exact Pick.here|apply Pick.there))).front (x:=.own jb _ 143) (by repeat (first|exact Pick.here|apply Pick.there)))
  refine kL ⟨n+1,?_⟩
  have e0:zba C kind s st=if (zbv C kind (zbj l) s d st).1≠0 then zbv C kind (zbj l) s d st else
   (match zbb C.types s l with
   | .error x=>x.1
   | .ok hs=>if mostT hs≠(C.types.getD s ⟨0,0,0⟩).most then 75 else if (C.types.getD s ⟨0,0,0⟩).out≠128∧(d.any fun i=>retP C i)=false then 86 else 0,(zbv C kind (zbj l) s d st).2):=by rw [zba,hget,hdd];try rfl
  suffices hl:L65_1 K (n+1) (some ⟨jb,0,none⟩) (s:Int) xh.p xh.n xh.c (some ⟨gs,0,none⟩) (zbj l).length (zbj l).length false p n c (n:Int) ((0:Nat):Int) w2 by rw [hsl] at hl;exact_mod_cast hl
  refine l65_1 hC hK (by omega) (fun x hx=>?_) (by omega) (by have:=hK.zd;omega) n 0 false hs st w2 (by omega) hj (by rw [hcl];simp) hh ?_ ?_
  ·have:=allT_props (l:=l) (i:=x.1) (by rw [← hda,← hib];exact List.mem_map_of_mem hx)
   omega
  ·rw [List.drop_zero,hib]
   intro h hs' a w' hj' hh'
   rw [if_pos h] at e0
   exact key _ hs' a w' e0 hj' hh'
  ·rw [List.drop_zero,hib]
   intro h hs' w' hj' hh'
   rw [if_neg (fun h2=>h2 h)] at e0
   have hany:(d.any fun i=>retP C i)=(false || ib.any fun x=>retP C x.1):=by rw [← hib,List.any_map];rfl
   rw [hany] at e0
   exact j65_0 hC hK (by omega) hsee0 hlm.2 hh' fun a w2 hh2=>key _ hs' a w2 e0 hj' hh2
end
inductive Reach (calls:List (List Int)):Nat→Prop
 | zero:Reach calls 0
 | step {s:Nat} {n:Int}:Reach calls s→n∈calls.getD s []→Reach calls n.toNat
def ApartP (calls:List (List Int)) (n:Nat):Prop:=∃ k,k < n∧¬ Reach calls k
def cf:List Bool→Nat
 | []=>0
 | b::l=>(if b=true then 0 else 1)+cf l
theorem cf_set:∀ {l:List Bool} {k:Nat},l[k]? = some false→cf (l.set k true)+1=cf l
 | [],k,h=>by simp at h
 | b::l,0,h=>by simp at h;subst h;simp [cf];omega
 | b::l,k+1,h=>by
  simp only [List.getElem?_cons_succ] at h
  have:=cf_set h
  simp only [List.set_cons_succ,cf]
  omega
theorem cf_le:∀ l:List Bool,cf l≤l.length
 | []=>by simp [cf]
 | b::l=>by have:=cf_le l;simp only [cf,List.length_cons];split <;> omega
theorem litRow {Z:Nat→Prop} {w0 w:World} {L:List Ent} {b n:Nat} {cs:List Value} {e:TypeId} (h:Hp Z w0 w (.own b cs.toArray e::L)) (hn:n=cs.length) (hl:n≤1000000):Hp Z w0 w (.row 1 (some ⟨b,0,none⟩) n n e cs::L):=by
 have ho:=h.own List.mem_cons_self
 refine h.less .here ⟨by omega,.inr ⟨b,n,cs.toArray,rfl,Nat.zero_le _,ho,Nat.le_refl _,Nat.le_trans (by omega) (by decide:1000000≤maxLen),by simp [hn],by simp [hn]⟩⟩ (fun k hk=>?_) fun k hk=>?_
 ·have hk:Blk (.slice (some ⟨b,0,none⟩) n n) k:=hk
  unfold Blk at hk;simp [Value.ownBlock] at hk;exact hk.symm
 ·have hk:Blk (.slice (some ⟨b,0,none⟩) n n) k:=hk
  unfold Blk at hk;simp [Value.ownBlock] at hk;exact hk.symm
theorem rowCut {Z:Nat→Prop} {w0 w:World} {L:List Ent} {p:Option Addr} {n c x:Nat} {e:TypeId} {xs:List Value} (h:Hp Z w0 w (.row 1 p n c e xs::L)) (hx:x≤n):Hp Z w0 w (.row 1 p x c e (xs.take x)::L):=by
 have hr:=h.row List.mem_cons_self
 refine h.less .here (Row.cut (w:=w) hr hx) (fun k hk=>?_) fun k hk=>?_
 all_goals
  have hk:Blk (.slice p x c) k:=hk
  show Blk (.slice p n c) k
  unfold Blk at hk ⊢
  cases p with
  | none=>simp [Value.ownBlock] at hk
  | some a=>simpa [Value.ownBlock] using hk
section
variable {w0:World} {K:Value→World→Prop} {jb gm gl gc gr:Nat} {hd:Cd} {C:Cont} {kind:Int} {hs:List Hdr} {st:JS} {R:List Ent}
theorem l66_3 {w:World} {re:List Bool} {n:Nat} (hn:n=re.length) (hn2:n≤1000000) (hre:Sees w 1 (some ⟨gr,0,none⟩) n n (zbr re)) {Q:Prop} (hQ:Q ↔ ∃ k,k < n∧re.getD k false=false)
  (kb:Q→∀ s:Int,K (.tuple #[.int .i64 s,.bool true]) w) (kg:¬ Q→K (.tuple #[.int .i64 0,.bool false]) w) :
  ∀ (q k:Nat),k+q=n→(∀ j,j < k→re.getD j false=true)→L66_3 K (q+1) (some ⟨gr,0,none⟩) n n (n:Int) (k:Int) w:=by
 intro q
 induction q with
 | zero =>
  intro k hk hq
  unfold L66_3
  refine ifD (fun h=>by omega) fun _=>kg fun h=>?_
  obtain ⟨j,hj,hf⟩:=hQ.1 h
  rw [hq j (by omega)] at hf;cases hf
 | succ q ih =>
  intro k hk hq
  unfold L66_3
  refine ifD (fun _=>?_) fun h=>by omega
  refine rdBl hre (by with_unfolding_all rfl) (by with_unfolding_all rfl) (by omega) (by omega) fun b hb=>?_
  simp only [Int.toNat_natCast] at hb
  have hg:re.getD k false=b:=by rw [List.getD_eq_getElem?_getD,hb];rfl
  cases b with
  | false=>exact zco (kb (hQ.2 ⟨k,by omega,hg⟩) _)
  | true =>
   refine zcj ?_
   rw [i64w (by omega) (by omega)]
   refine (?_:L66_3 K (q+1) (some ⟨gr,0,none⟩) n n (n:Int) ((k:Int)+1) w)
   exact_mod_cast ih (k+1) (by omega) fun j hj=>by
    by_cases h:j=k
    ·subst h;exact hg
    ·exact hq j (by omega)
structure RInv (st:JS) (nc:Nat) (re:List Bool) (work:List Int):Prop where
 rl:re.length=nc
 sound:∀ k,re.getD k false=true→Reach st.calls k
 done:∀ k,re.getD k false=true→(k:Int)∈work∨∀ n∈st.calls.getD k [],re.getD n.toNat false=true
 zero:re.getD 0 false=true
 range:∀ x∈work,0≤x∧x < nc
 reached:∀ x∈work,re.getD x.toNat false=true
abbrev A66 (gr nc:Nat) (jb gm gl gc:Nat) (hd:Cd) (C:Cont) (kind:Int) (hs:List Hdr) (st:JS) (R:List Ent) (re:List Bool) (p5:Option Addr) (n5 c5:Nat) (work:List Int):List Ent :=
 .row 1 p5 n5 c5 3 (ints work)::.own gr (zbr re).toArray 4::JE jb gm gl gc hd C kind hs st R
theorem l66_end {nc:Nat} {w:World} {re:List Bool} {p5:Option Addr} {n5 c5:Nat} (hn2:nc≤1024) (inv:RInv st nc re []) (hval:∀ (k:Nat) (l:List Int),st.calls[k]? = some l→l.length≤1000000∧∀ n∈l,0≤n∧n < nc)
  (hh:Hp zan w0 w (A66 gr nc jb gm gl gc hd C kind hs st R re p5 n5 c5 []))
  (kk:∀ (s:Int) (b:Bool) w',(b=true ↔ ApartP st.calls nc)→Hp zan w0 w' (JE jb gm gl gc hd C kind hs st R)→K (.tuple #[.int .i64 s,.bool b]) w'):J66_0 K (some ⟨gr,0,none⟩) nc nc w:=by
 have hcl:∀ k,Reach st.calls k→re.getD k false=true:=by
  intro k hk
  induction hk with
  | zero=>exact inv.zero
  | @step s n hs hn ih =>
   rcases inv.done s ih with h|h
   ·simp at h
   ·exact h n hn
 have hQ:ApartP st.calls nc ↔ ∃ k,k < nc∧re.getD k false=false:=by
  constructor
  ·rintro ⟨k,hk,hn⟩
   refine ⟨k,hk,?_⟩
   cases hb:re.getD k false with
   | false=>rfl
   | true=>exact absurd (inv.sound k hb) hn
  ·rintro ⟨k,hk,hf⟩
   exact ⟨k,hk,fun h=>by rw [hcl k h] at hf;cases hf⟩
 have ho:=hh.own (b:=gr) (cs:=(zbr re).toArray) (t:=4) (by repeat (first|exact m0|apply mS))
 have hh2:=hh.tail.tail
 unfold J66_0
 refine ⟨nc+1,?_⟩
 exact_mod_cast l66_3 inv.rl.symm (by omega) (Own.sees ho (by rw [zcy];exact inv.rl)) hQ (fun h s=>kk s true w (by simp [h]) hh2) (fun h=>kk 0 false w (by simp [h]) hh2) nc 0 (by omega) (fun j hj=>by omega)
theorem l66_2 {CL:Option Addr→Option Addr→Nat→Nat→Option Addr→Nat→Nat→World→Prop} {nc:Nat} {w:World} {re:List Bool} {work:List Int} {p5 p41:Option Addr} {n5 c5 n41 c41:Nat} {x6:Int} {l:List Int} (hrl:re.length=nc) (h41:Sees w 1 p41 n41 c41 (ints l)) (hl2:n41≤1000000) (hr:∀ n∈l,0≤n∧n < nc) (hn5:n5=work.length) (hwl:n5≤1000000)
  (hh:Hp zan w0 w (A66 gr nc jb gm gl gc hd C kind hs st R re p5 n5 c5 work))
  (kf:∀ n∈l,re.getD n.toNat false=false→∀ p c w',Hp zan w0 w' (A66 gr nc jb gm gl gc hd C kind hs st R (re.set n.toNat true) p (n5+2) c (work++[x6,n]))→CL (some ⟨jb,0,none⟩) (some ⟨gr,0,none⟩) nc nc p (n5+2) c w')
  (kn:(∀ n∈l,re.getD n.toNat false=true)→CL (some ⟨jb,0,none⟩) (some ⟨gr,0,none⟩) nc nc p5 n5 c5 w) :
  ∀ (q k:Nat),k+q=n41→(∀ j n,j < k→l[j]? = some n→re.getD n.toNat false=true)→L66_2 K CL (q+1) (some ⟨jb,0,none⟩) (some ⟨gr,0,none⟩) nc nc p5 n5 c5 x6 p41 n41 c41 (n41:Int) (k:Int) w:=by
 have hlen:=h41.len
 rw [zbl] at hlen
 intro q
 induction q with
 | zero =>
  intro k hk hq
  unfold L66_2
  refine ifD (fun h=>by omega) fun _=>kn fun n hn=>?_
  obtain ⟨j,hj,hjn⟩:=List.getElem_of_mem hn
  exact hq j n (by omega) (by rw [List.getElem?_eq_getElem hj,hjn])
 | succ q ih =>
  intro k hk hq
  unfold L66_2
  refine ifD (fun _=>?_) fun h=>by omega
  refine rdI h41 (by with_unfolding_all rfl) (by with_unfolding_all rfl) (by omega) (by omega) fun n hn=>?_
  simp only [Int.toNat_natCast] at hn
  have hnm:=List.mem_of_getElem? hn
  obtain ⟨r0,r1⟩:=hr n hnm
  have ho:=hh.own (b:=gr) (cs:=(zbr re).toArray) (t:=4) (by repeat (first|exact m0|apply mS))
  refine rdBl (Own.sees ho (by rw [zcy];exact hrl)) (by with_unfolding_all rfl) (by with_unfolding_all rfl) (by omega) (by omega) fun b hb=>?_
  have hg:re.getD n.toNat false=b:=by rw [List.getD_eq_getElem?_getD,hb];rfl
  cases b with
  | false =>
   refine zco ?_
   refine wIxSt (cs:=zbr re) hh (by repeat (first|exact Pos.here|apply Pos.there)) (by rw [zcy];omega) (by with_unfolding_all rfl) (by with_unfolding_all rfl) (by omega) (by omega) (by with_unfolding_all rfl) rfl rfl fun w' hh _=>?_
   rw [bools_set] at hh
   repeat' first|(with_reducible first|refine kk_ ?_|refine nx hh ?_|refine allW fun w' hh=>?_|exact sd_)|((with_reducible refine appH hh (by with_unfolding_all rfl) (by with_unfolding_all rfl) (by with_unfolding_all rfl) (by with_unfolding_all rfl) (by with_unfolding_all rfl) (by with_unfolding_all rfl) (by with_unfolding_all rfl) (by omega) (by with_unfolding_all rfl) fun g9 cap9 w4 hh=>?_);(replace hh:=hh.tail))|(with_reducible first|refine And.intro ?_ ?_|exact vr)|fail
   have e1:ints work++#[Value.int .i64 x6,.int .i64 n].toList=ints (work++[x6,n]):=by simp [ints]
   rw [e1] at hh
   exact kf n hnm hg _ _ _ hh
  | true =>
   refine zcj ?_
   first|rw [i64w (by omega) (by omega)]|(dsimp only;rw [i64w (by omega) (by omega)])
   refine (?_:L66_2 K CL (q+1) (some ⟨jb,0,none⟩) (some ⟨gr,0,none⟩) nc nc p5 n5 c5 x6 p41 n41 c41 (n41:Int) ((k:Int)+1) w)
   exact_mod_cast ih (k+1) (by omega) fun j m hj hm=>by
    by_cases h:j=k
    ·subst h
     rw [hn] at hm;cases hm
     exact hg
    ·exact hq j m (by omega) hm
theorem l66_1 {nc:Nat} (hj:JOK C hs st) (hnc:nc=C.codes.length) (hn2:nc≤1024) (hcn:hd.c.n=nc) (hval:∀ (k:Nat) (l:List Int),st.calls[k]? = some l→l.length≤1000000∧∀ n∈l,0≤n∧n < nc)
  (kk:∀ (s:Int) (b:Bool) w',(b=true ↔ ApartP st.calls nc)→Hp zan w0 w' (JE jb gm gl gc hd C kind hs st R)→K (.tuple #[.int .i64 s,.bool b]) w') :
  ∀ (μ:Nat) (re:List Bool) (work:List Int) (p5:Option Addr) (n5 c5:Nat) (w:World),2 * cf re+work.length≤μ→work.length+cf re≤10000→RInv st nc re work→n5=work.length→Hp zan w0 w (A66 gr nc jb gm gl gc hd C kind hs st R re p5 n5 c5 work) →
   L66_1 K (μ+1) (some ⟨jb,0,none⟩) (some ⟨gr,0,none⟩) nc nc p5 n5 c5 w:=by
 intro μ
 induction μ with
 | zero =>
  intro re work p5 n5 c5 w hμ hw inv hn5 hh
  unfold L66_1
  refine ifD (fun h=>by omega) fun _=>?_
  have h0:work=[]:=List.length_eq_zero_iff.1 (by omega)
  subst h0
  exact l66_end hn2 inv hval hh kk
 | succ μ ih =>
  intro re work p5 n5 c5 w hμ hw inv hn5 hh
  unfold L66_1
  refine ifD (fun hpos=>?_) fun hpos=>?_
  rotate_left
  ·have h0:work=[]:=List.length_eq_zero_iff.1 (by omega)
   subst h0
   exact l66_end hn2 inv hval hh kk
  have hrow:=hh.row (z:=1) (p:=p5) (n:=n5) (c:=c5) (e:=3) (xs:=ints work) (by repeat (first|exact m0|apply mS))
  rw [i64w (n:=(n5:Int) - 1) (by omega) (by omega)]
  refine rdI hrow.sees (by with_unfolding_all rfl) (by with_unfolding_all rfl) (by omega) (by omega) fun s hs'=>?_
  have e0:((n5:Int) - 1).toNat=n5 - 1:=by omega
  rw [e0] at hs'
  have hsm:=List.mem_of_getElem? hs'
  obtain ⟨r0,r1⟩:=inv.range s hsm
  have hsr:=inv.reached s hsm
  obtain ⟨k,rfl⟩:=Int.eq_ofNat_of_zero_le r0
  rw [Int.toNat_natCast] at hsr
  refine cutZ (z:=1) (by with_unfolding_all rfl) (by with_unfolding_all rfl) (by omega) (by omega) hrow.sees.le ?_
  rw [e0]
  have hh2:=rowCut (x:=n5 - 1) hh (by omega)
  have htk:(ints work).take (n5 - 1)=ints (work.take (n5 - 1)):=by simp [ints,List.map_take]
  rw [htk] at hh2
  clear hh
  have hh:=hh2
  clear hh2
  have hwk:work=work.take (n5 - 1)++[(k:Int)]:=by
   have h1:work.take n5=work.take (n5 - 1)++[(k:Int)]:=by
    have:=List.take_add_one (l:=work) (i:=n5 - 1)
    rw [hs'] at this
    rw [show n5 - 1+1=n5 by omega] at this
    exact this
   rw [List.take_of_length_le (by omega)] at h1
   exact h1
  generalize hrest:work.take (n5 - 1)=rest at hh hwk
  have hrl:rest.length=n5 - 1:=by rw [← hrest,List.length_take];omega
  with_reducible repeat' first|refine kk_ ?_|refine nx hh ?_|refine allW fun w' hh=>?_|exact sd_|refine ai ?_ ?_|exact vr|fail
  have hrows:RowsAt w gc 29 3 hs (st.calls.map ints):=(hh.our (S:=rowsS gc hs) (A:=fun w=>RowsAt w gc 29 3 hs (st.calls.map ints)) (by repeat (first|exact m0|apply mS))).holds
  have hkl:k < hs.length:=by rw [hj.hdrs];omega
  have hkc:k < st.calls.length:=by rw [hj.calls];omega
  have g1:hs[k]? = some (hs[k]'hkl):=List.getElem?_eq_getElem hkl
  have g2:st.calls[k]? = some (st.calls[k]'hkc):=List.getElem?_eq_getElem hkc
  have g3:st.calls.getD k []=st.calls[k]'hkc:=by rw [List.getD_eq_getElem?_getD,g2];rfl
  generalize hhx:hs[k]'hkl=h at g1
  generalize hlx:st.calls[k]'hkc=l at g2 g3
  have g4:(st.calls.map ints)[k]? = some (ints l):=by rw [List.getElem?_map,g2];rfl
  obtain ⟨v1,v2⟩:=hval k l g2
  have hsees:=(hrows.row k h _ g1 g4).sees
  have hhn:h.n=l.length:=by have:=hsees.len;rw [zbl] at this;omega
  refine zdo (z:=1) (by with_unfolding_all rfl) (by with_unfolding_all rfl) (by omega) ?_
  rw [Nat.mul_one]
  refine kA (ldO hrows.own (v:=h.v) (by simp [g1]) (kL ⟨h.n+1,?_⟩))
  have base:L66_2 K (L66_1 K (μ+1)) (h.n+1) (some ⟨jb,0,none⟩) (some ⟨gr,0,none⟩) nc nc p5 (n5 - 1) c5 (k:Int) h.p h.n h.c (h.n:Int) ((0:Nat):Int) w:=by
   refine l66_2 (work:=rest) (re:=re) inv.rl hsees (by omega) v2 hrl.symm (by omega) hh (fun n hn hf p c w' hh'=>?_) (fun hall=>?_) h.n 0 (by omega) (fun j n hj=>by omega)
   ·have hnr:=v2 n hn
    have hget:re[n.toNat]? = some false:=by
     have hlt:n.toNat < re.length:=by rw [inv.rl];omega
     rw [List.getElem?_eq_getElem hlt]
     rw [List.getD_eq_getElem?_getD,List.getElem?_eq_getElem hlt] at hf
     exact congrArg some hf
    have hcf:=cf_set hget
    have hset:∀ j,(re.set n.toNat true).getD j false=true ↔ (j=n.toNat∨re.getD j false=true):=by
     intro j
     by_cases hj:n.toNat=j
     ·subst hj
      rw [List.getD_eq_getElem?_getD,List.getElem?_set_self (by rw [inv.rl];omega)];simp
     ·rw [List.getD_eq_getElem?_getD,List.getElem?_set_ne hj,← List.getD_eq_getElem?_getD]
      constructor
      ·exact .inr
      ·rintro (h|h)
       ·exact absurd h.symm hj
       ·exact h
    refine ih (re.set n.toNat true) (rest++[(k:Int),n]) p (n5 - 1+2) c w' (by simp;omega) (by simp;omega) ⟨by rw [List.length_set];exact inv.rl,fun j hj=>?_,fun j hj=>?_,(hset 0).2 (.inr inv.zero),fun x hx=>?_,fun x hx=>?_⟩ (by simp;omega) hh'
    ·rcases (hset j).1 hj with h|h
     ·subst h
      exact .step (inv.sound k hsr) (by rw [g3];exact hn)
     ·exact inv.sound j h
    ·rcases (hset j).1 hj with h|h
     ·left
      subst h
      have:((n.toNat:Nat):Int)=n:=by omega
      rw [this];simp
     ·rcases inv.done j h with h1|h1
      ·left
       rw [hwk] at h1
       simp only [List.mem_append,List.mem_singleton] at h1
       simp only [List.mem_append,List.mem_cons,List.not_mem_nil,or_false]
       rcases h1 with h1|h1
       ·exact .inl h1
       ·exact .inr (.inl h1)
      ·right
       intro m hm
       exact (hset _).2 (.inr (h1 m hm))
    ·simp only [List.mem_append,List.mem_cons,List.not_mem_nil,or_false] at hx
     rcases hx with h|h|h
     ·exact inv.range x (by rw [hwk];simp [h])
     ·subst h;exact ⟨r0,r1⟩
     ·subst h;exact hnr
    ·simp only [List.mem_append,List.mem_cons,List.not_mem_nil,or_false] at hx
     rcases hx with h|h|h
     ·exact (hset _).2 (.inr (inv.reached x (by rw [hwk];simp [h])))
     ·subst h;exact (hset _).2 (.inr hsr)
     ·subst h;exact (hset _).2 (.inl rfl)
   ·refine ih re rest p5 (n5 - 1) c5 w (by omega) (by omega) ⟨inv.rl,inv.sound,fun j hj=>?_,inv.zero,fun x hx=>inv.range x (by rw [hwk];simp [hx]),fun x hx=>inv.reached x (by rw [hwk];simp [hx])⟩ hrl.symm hh
    rcases inv.done j hj with h1|h1
    ·rw [hwk] at h1
     simp only [List.mem_append,List.mem_singleton] at h1
     rcases h1 with h1|h1
     ·exact .inl h1
     ·right
      have:j=k:=by omega
      subst this
      rw [g3]
      exact hall
    ·exact .inr h1
  exact_mod_cast base
theorem f66 {w:World} {nc:Nat} (hj:JOK C hs st) (hnc:nc=C.codes.length) (hn1:0 < nc) (hn2:nc≤1024) (hcn:hd.c.n=nc) (hval:∀ (k:Nat) (l:List Int),st.calls[k]? = some l→l.length≤1000000∧∀ n∈l,0≤n∧n < nc)
  (hh:Hp zan w0 w (JE jb gm gl gc hd C kind hs st R))
  (kk:∀ (s:Int) (b:Bool) w',(b=true ↔ ApartP st.calls nc)→Hp zan w0 w' (JE jb gm gl gc hd C kind hs st R)→K (.tuple #[.int .i64 s,.bool b]) w') :
  zaj Tryz.prog 66 #[.pointer (some ⟨jb,0,none⟩)] w K:=by
 refine call66 _ _ _ ?_
 unfold F66
 with_reducible repeat' first|refine kk_ ?_|refine nx hh ?_|refine allW fun w' hh=>?_|exact sd_|refine ai ?_ ?_|exact vr|fail
 first|rw [hcn]|(dsimp only;rw [hcn])
 refine makeN (n:=nc) (z:=.bool false) hh (by with_unfolding_all rfl) (by with_unfolding_all rfl) (by with_unfolding_all rfl) (by omega) (by decide) fun w1 hh hb1=>?_
 generalize w.heap.size=gr at hh ⊢
 rw [repC_bools] at hh
 refine kL ?_
 refine wIxSt (cs:=zbr (List.replicate nc false)) hh (by repeat (first|exact Pos.here|apply Pos.there)) (by simp [zcy]) (by with_unfolding_all rfl) (by with_unfolding_all rfl) (by omega) (by omega) (by with_unfolding_all rfl) rfl rfl fun w2 hh _=>?_
 rw [bools_set,show (0:Int).toNat=0 from rfl] at hh
 with_reducible refine zci hh fun w3 hh hb3=>?_
 have hh2:=litRow hh rfl (by simp)
 have hcf:=cf_le ((List.replicate nc false).set 0 true)
 rw [List.length_set,List.length_replicate] at hcf
 have hset:∀ j,((List.replicate nc false).set 0 true).getD j false=true ↔ j=0:=by
  intro j
  by_cases h0:j=0
  ·subst h0
   rw [List.getD_eq_getElem?_getD,List.getElem?_set_self (by simp;omega)];simp
  ·rw [List.getD_eq_getElem?_getD,List.getElem?_set_ne (fun h=>h0 h.symm)]
   constructor
   ·intro h
    cases hg:(List.replicate nc false)[j]? with
    | none=>rw [hg] at h;cases h
    | some b =>
     have:=List.mem_of_getElem? hg
     rw [List.mem_replicate] at this
     rw [hg,this.2] at h;cases h
   ·intro h;exact absurd h h0
 refine ⟨2 * cf ((List.replicate nc false).set 0 true)+1+1,?_⟩
 refine l66_1 (gr:=gr) hj hnc hn2 hcn hval kk _ ((List.replicate nc false).set 0 true) [0] _ 1 1 _ (by simp) (by simp;omega) ⟨by simp,fun k hk=>?_,fun k hk=>?_,(hset 0).2 rfl,fun x hx=>?_,fun x hx=>?_⟩ rfl hh2
 ·rw [(hset k).1 hk];exact .zero
 ·left;rw [(hset k).1 hk];simp
 ·simp only [List.mem_singleton] at hx;subst hx;omega
 ·simp only [List.mem_singleton] at hx;subst hx;exact (hset _).2 rfl
end
theorem zbp {α β:Type} {x:Except (Int × Int) α} {f:α→Except (Int × Int) β} {b:β} (h:bindE x f = .ok b):∃ a,x = .ok a∧f a = .ok b:=by
 cases x with
 | error e=>cases h
 | ok a=>exact ⟨a,rfl,h⟩
theorem askT_inv {b:Bool} {e a:Int} (h:askT b e a = .ok ()):b=true:=by
 cases b with
 | true=>rfl
 | false=>cases h
theorem cutT_len {l:List UInt8}:∀ {r:List Int} {a:Nat},(cutT l a r).length=r.length
 | [],a=>rfl
 | s::r,a=>by simp [cutT,cutT_len (r:=r)]
theorem cutT_mem {l:List UInt8}:∀ {r:List Int} {a:Nat} {x:List UInt8},x∈cutT l a r→x.length≤l.length - a
 | [],a,x,h=>by simp [cutT] at h
 | s::r,a,x,h=>by
  simp only [cutT,List.mem_cons] at h
  rcases h with h|h
  ·subst h;rw [List.length_take,List.length_drop];omega
  ·have:=cutT_mem h;omega
theorem typesT_len {l:List UInt8}:∀ {k a:Nat} {f:Bool} {r:List Ty},zdh l k a f = .ok r→r.length=k∧∀ t∈r,TyOK t
 | 0,a,f,r,h=>by simp only [zdh,Except.ok.injEq] at h;subst h;simp
 | k+1,a,f,r,h=>by
  rw [zdh] at h
  cases hi:zbq l a 1 with
  | error x=>rw [hi] at h;cases h
  | ok i =>
  rw [hi] at h
  simp only at h
  by_cases h1:fitIn f i=true
  rotate_left
  ·rw [if_neg h1] at h;cases h
  rw [if_pos h1] at h
  cases ho:zbq l (a+1) 1 with
  | error x=>rw [ho] at h;cases h
  | ok o =>
  rw [ho] at h
  simp only at h
  by_cases h2:zdr f o=true
  rotate_left
  ·rw [if_neg h2] at h;cases h
  rw [if_pos h2] at h
  cases hm:zbq l (a+1+1) 2 with
  | error x=>rw [hm] at h;cases h
  | ok m =>
  rw [hm] at h
  simp only at h
  by_cases h3:zdp m=true
  rotate_left
  ·rw [if_neg h3] at h;cases h
  rw [if_pos h3] at h
  cases hr:zdh l k (a+1+1+2) false with
  | error x=>rw [hr] at h;cases h
  | ok r' =>
  rw [hr] at h
  cases h
  obtain ⟨g1,g2⟩:=typesT_len hr
  refine ⟨by simp [g1],fun t ht=>?_⟩
  rcases List.mem_cons.1 ht with h|h
  ·subst h
   unfold fitIn at h1
   unfold zdr at h2
   unfold zdp at h3
   simp only [Bool.and_eq_true,decide_eq_true_eq] at h1 h2 h3
   unfold TyOK
   simp only
   omega
  ·exact g2 t h
structure ParseP (l:List UInt8) (C:Cont):Prop where
 ct:C.types.length=C.codes.length
 c1:C.codes.length≤1024
 s1:C.subs.length≤256
 cl:∀ x∈C.codes,x.length < l.length
 sl:∀ x∈C.subs,x.length < l.length
 z0:0≤C.size∧C.size≤65535
 ty:∀ t∈C.types,TyOK t
theorem bodyP {l:List UInt8} {op:Bool} {h2:Nat} {four n:Int} {codes subs:List Int} {C:Cont} (h:bodyT l op h2 four n codes subs = .ok C) (hn0:0≤n) (hn:n≤1024) (hc:codes.length=n.toNat) (hs:subs.length≤256):ParseP l C:=by
 unfold bodyT at h
 obtain ⟨size,hz,h⟩:=zbp h
 obtain ⟨_,hw,h⟩:=zbp h
 obtain ⟨_,ha,h⟩:=zbp h
 obtain ⟨_,hb,h⟩:=zbp h
 obtain ⟨ts,ht,h⟩:=zbp h
 cases h
 have hzl:=fieldT_lt (by decide) hz
 obtain ⟨t1,t2⟩:=typesT_len ht
 have hl0:0 < l.length:=by omega
 refine ⟨?_,?_,?_,fun x hx=>?_,fun x hx=>?_,⟨hzl.1,?_⟩,t2⟩
 ·show ts.length=(cutT _ _ _).length
  rw [t1,cutT_len,hc]
 ·show (cutT _ _ _).length≤1024
  rw [cutT_len];omega
 ·show (cutT _ _ _).length≤256
  rw [cutT_len];omega
 ·have:=cutT_mem hx;omega
 ·have:=cutT_mem hx;omega
 ·have:=hzl.2.1
  show size≤65535
  omega
theorem parseP {l:List UInt8} {op:Bool} {C:Cont} (h:zay l op = .ok C):ParseP l C:=by
 unfold zay at h
 obtain ⟨_,_,h⟩:=zbp h
 obtain ⟨_,_,h⟩:=zbp h
 obtain ⟨_,_,h⟩:=zbp h
 obtain ⟨_,_,h⟩:=zbp h
 obtain ⟨four,hf,h⟩:=zbp h
 obtain ⟨_,ha,h⟩:=zbp h
 have h4:=askT_inv ha
 simp only [Bool.and_eq_true,decide_eq_true_eq] at h4
 unfold codesT at h
 obtain ⟨_,_,h⟩:=zbp h
 obtain ⟨n,hn,h⟩:=zbp h
 obtain ⟨_,hq,h⟩:=zbp h
 have h5:=askT_inv hq
 simp only [beq_iff_eq] at h5
 obtain ⟨codes,hc,h⟩:=zbp h
 obtain ⟨kind,hk,h⟩:=zbp h
 obtain ⟨_,_,h⟩:=zbp h
 have hcl:=zdx (by decide) _ _ _ hc
 unfold kindT at h
 have hn0:=(fieldT_lt (by decide) hn).1
 split at h
 ·obtain ⟨m,hm,h⟩:=zbp h
  obtain ⟨_,hma,h⟩:=zbp h
  have h6:=askT_inv hma
  simp only [Bool.and_eq_true,decide_eq_true_eq] at h6
  obtain ⟨subs,hs,h⟩:=zbp h
  obtain ⟨_,_,h⟩:=zbp h
  have hsl:=zdx (by decide) _ _ _ hs
  exact bodyP h hn0 (by omega) hcl.2.1 (by omega)
 ·exact bodyP h hn0 (by omega) hcl.2.1 (by simp)
theorem parse_err {l:List UInt8} {op:Bool} {e a:Int} (h:zay l op = .error (e,a)):(e != 0)=true:=by
 have fld:∀ {a s:Nat} {x:Int × Int},zbq l a s = .error x→(x.1 != 0)=true:=by
  intro a s x h
  unfold zbq at h
  split at h
  ·cases h;rfl
  ·cases h
 have wnt:∀ {a:Nat} {v e:Int} {x:Int × Int},(e != 0)=true→wantT l a v e = .error x→(x.1 != 0)=true:=by
  intro a v e x he h
  unfold wantT at h
  split at h
  ·rename_i y hy
   cases h;exact fld hy
  ·split at h
   ·cases h
   ·cases h;exact he
 have ask:∀ {b:Bool} {e a:Int} {x:Int × Int},(e != 0)=true→askT b e a = .error x→(x.1 != 0)=true:=by
  intro b e a x he h
  cases b with
  | true=>cases h
  | false=>cases h;exact he
 have szs:∀ {s k a:Nat} {x:Int × Int},zcr l s k a = .error x→(x.1 != 0)=true:=by
  intro s k
  induction k with
  | zero=>intro a x h;cases h
  | succ k ih =>
   intro a x h
   rw [zcr] at h
   split at h
   ·rename_i y hy
    cases h;exact fld hy
   split at h
   ·split at h
    ·rename_i y hy
     cases h;exact ih hy
    ·cases h
   ·cases h;rfl
 have tys:∀ {k a:Nat} {f:Bool} {x:Int × Int},zdh l k a f = .error x→(x.1 != 0)=true:=by
  intro k
  induction k with
  | zero=>intro a f x h;cases h
  | succ k ih =>
   intro a f x h
   rw [zdh] at h
   split at h
   ·rename_i y hy;cases h;exact fld hy
   split at h
   ·split at h
    ·rename_i y hy;cases h;exact fld hy
    split at h
    ·split at h
     ·rename_i y hy;cases h;exact fld hy
     split at h
     ·split at h
      ·rename_i y hy;cases h;exact ih hy
      ·cases h
     ·cases h;rfl
    ·cases h;rfl
   ·cases h;rfl
 have bnd:∀ {α β:Type} {x:Except (Int × Int) α} {f:α→Except (Int × Int) β} {y:Int × Int},bindE x f = .error y→x = .error y∨∃ a,x = .ok a∧f a = .error y:=by
  intro α β x f y h
  cases x with
  | error e=>cases h;exact .inl rfl
  | ok a=>exact .inr ⟨a,rfl,h⟩
 have bdy:∀ {h2:Nat} {four n:Int} {codes subs:List Int} {x:Int × Int},bodyT l op h2 four n codes subs = .error x→(x.1 != 0)=true:=by
  intro h2 four n codes subs x h
  unfold bodyT at h
  rcases bnd h with h|⟨_,_,h⟩
  ·exact fld h
  rcases bnd h with h|⟨_,_,h⟩
  ·exact wnt rfl h
  rcases bnd h with h|⟨_,_,h⟩
  ·exact ask rfl h
  rcases bnd h with h|⟨_,_,h⟩
  ·exact ask rfl h
  rcases bnd h with h|⟨_,_,h⟩
  ·exact tys h
  ·cases h
 unfold zay at h
 rcases bnd h with h|⟨_,_,h⟩
 ·exact wnt rfl h
 rcases bnd h with h|⟨_,_,h⟩
 ·exact wnt rfl h
 rcases bnd h with h|⟨_,_,h⟩
 ·exact wnt rfl h
 rcases bnd h with h|⟨_,_,h⟩
 ·exact wnt rfl h
 rcases bnd h with h|⟨_,_,h⟩
 ·exact fld h
 rcases bnd h with h|⟨_,_,h⟩
 ·exact ask rfl h
 unfold codesT at h
 rcases bnd h with h|⟨_,_,h⟩
 ·exact wnt rfl h
 rcases bnd h with h|⟨_,_,h⟩
 ·exact fld h
 rcases bnd h with h|⟨_,_,h⟩
 ·exact ask rfl h
 rcases bnd h with h|⟨_,_,h⟩
 ·exact szs h
 rcases bnd h with h|⟨_,_,h⟩
 ·exact fld h
 rcases bnd h with h|⟨_,_,h⟩
 ·exact ask rfl h
 unfold kindT at h
 split at h
 ·rcases bnd h with h|⟨_,_,h⟩
  ·exact fld h
  rcases bnd h with h|⟨_,_,h⟩
  ·exact ask rfl h
  rcases bnd h with h|⟨_,_,h⟩
  ·exact szs h
  rcases bnd h with h|⟨_,_,h⟩
  ·exact wnt rfl h
  ·exact bdy h
 ·exact bdy h
def subT (J:Cont→Int→Int) (lay:Bool) (b:List UInt8):Int :=
 match zay b lay with
 | .error x=>x.1
 | .ok C=>J C (if lay=true then 1 else 2)
def nestL (J:Cont→Int→Int) (st:JS):List (List UInt8)→Nat→Int
 | [],_=>0
 | b::r,i=>if subT J (st.lays.getD i false) b≠0 then subT J (st.lays.getD i false) b else nestL J st r (i+1)
def zdn (J:Cont→Int→Int) (C:Cont) (st:JS):Int :=
 if ((List.range C.subs.length).any fun i=>!st.makes.getD i false && !st.lays.getD i false)=true then 88 else
 if ((List.range C.subs.length).any fun i=>st.makes.getD i false && st.lays.getD i false)=true then 89 else nestL J st C.subs 0
def rejA (e:Int) (p:Option Addr) (n c:Nat) (s a:Int):Value:=.agg #[.int .i64 e,.slice p n c,.int .i64 s,.int .i64 a]
def Judges (f:Nat) (J:Cont→Int→Int):Prop :=
 ∀ ⦃w:World⦄ ⦃hd:Cd⦄ ⦃C:Cont⦄ ⦃kind:Int⦄ ⦃K:Value→World→Prop⦄,ContAt w hd C→(∀ x∈C.subs,x.length≤f)→C.types.length≤1000000→C.codes.length≤1000000→C.subs.length≤1000000 →
  (∀ (p:Option Addr) (n c:Nat) (path:List Int) (s a:Int) (w':World),Bl w w'→Sees w' 1 p n c (ints path)→n≤f+1→(∀ ad,p=some ad→0 < n→w.heap.size≤ad.block)→K (rejA (J C kind) p n c s a) w') →
  zaj Tryz.prog 29 #[contV hd C,.int .i64 kind] w K
section
variable {w0:World} {K:Value→World→Prop} {jb gm gl gc x2:Nat} {hd:Cd} {C:Cont} {kind:Int} {hs:List Hdr} {st:JS} {R:List Ent} {f:Nat} {J:Cont→Int→Int}
abbrev E67 (x2:Nat) (jb gm gl gc:Nat) (hd:Cd) (C:Cont) (kind:Int) (hs:List Hdr) (st:JS) (R:List Ent):List Ent :=
 .own x2 #[.int .i64 0,.slice none 0 0,.int .i64 0,.int .i64 0] 31::JE jb gm gl gc hd C kind hs st R
theorem takeOwn {Z:Nat→Prop} {w0 w w':World} {L M:List Ent} (h:Hp Z w0 w L) (h':Hp zan w w' M) (ho:∀ x∈M,∀ k,x.foot k→x.mine k):Hp Z w0 w' (M++L) :=
 h.take h' fun x hx i hi=>(h'.may x hx i (ho x hx i hi)).elim (fun h=>h.elim) id
theorem l67_7 {mm:Nat} (hJ:C.subs≠[]→Judges f J) (hmm:C.subs≠[]→f+2≤mm) (hC:ContAt w0 hd C) (hj:JOK C hs st) (hf:∀ x∈C.subs,x.length≤f+1) (hf2:f≤100000000) (hs1:C.subs.length≤256)
  (kk:∀ (p:Option Addr) (n c:Nat) (path:List Int) (s a:Int) (w':World),Hp zan w0 w' (.see 1 p n c (ints path)::R)→n≤mm→(∀ ad,p=some ad→0 < n→w0.heap.size≤ad.block)→K (rejA (nestL J st C.subs 0) p n c s a) w') :
  ∀ (q k:Nat) (w:World),k+q=C.subs.length→nestL J st (C.subs.drop k) k=nestL J st C.subs 0→Hp zan w0 w (E67 x2 jb gm gl gc hd C kind hs st R) →
   L67_7 K (q+1) (some ⟨jb,0,none⟩) ⟨x2,0,none⟩ hd.s.p hd.s.n hd.s.c (hd.s.n:Int) (k:Int) w:=by
 have hsn:=hC.subs.n
 intro q
 induction q with
 | zero =>
  intro k w hk hq hh
  unfold L67_7
  refine ifD (fun h=>by omega) fun _=>?_
  unfold J67_6
  have hd0:C.subs.drop k=[]:=List.drop_of_length_le (by omega)
  rw [hd0,nestL] at hq
  with_reducible repeat' first|refine kk_ ?_|refine nx hh ?_|refine allW fun w' hh=>?_|exact sd_|refine ai ?_ ?_|exact vr|fail
  have:=kk none 0 0 [] 0 0 _ ((rowSee (hh.rowNil 1 3)).sublist (.cons_cons _ (by repeat (first|exact List.Sublist.refl _|apply List.Sublist.cons)))) (by omega) (fun ad h=>by cases h)
  rw [← hq] at this
  exact this
 | succ q ih =>
  intro k w hk hq hh
  unfold L67_7
  refine ifD (fun _=>?_) fun h=>by omega
  refine rdBy (hC.subs.bl hh.done) (by with_unfolding_all rfl) (by with_unfolding_all rfl) (by omega) (by omega) fun xh b hxh hxl hsee=>?_
  simp only [Int.toNat_natCast] at hxh hxl
  have hbm:=List.mem_of_getElem? hxl
  have hbl:=hf b hbm
  have hne0:=List.ne_nil_of_mem hbm
  have hmm':=hmm hne0
  have hJ:=hJ hne0
  have hbn:=hsee.bytes
  have hdr:C.subs.drop k=b::C.subs.drop (k+1):=by
   have hlt:k < C.subs.length:=by omega
   rw [List.getElem?_eq_getElem hlt] at hxl
   cases hxl
   exact List.drop_eq_getElem_cons hlt
  rw [hdr,nestL] at hq
  have hlay:(zbr st.lays).toArray[k * 1]? = some (.bool (st.lays.getD k false)):=bl0 (by rw [hj.lays];omega)
  rw [Nat.mul_one] at hlay
  -- the end of a round
  have J9:∀ {w'} {x9:Nat} {p:Option Addr} {n c:Nat} {path:List Int} {e s a:Int} {L:List Ent},
    (if e≠0 then e else nestL J st (C.subs.drop (k+1)) (k+1))=nestL J st C.subs 0→n≤f+1 →
    Hp zan w0 w' (.own x9 #[.int .i64 e,.slice p n c,.int .i64 s,.int .i64 a] 31::.see 1 p n c (ints path)::E67 x2 jb gm gl gc hd C kind hs st R) →
    J67_9 K (L67_7 K (q+1)) (some ⟨jb,0,none⟩) ⟨x2,0,none⟩ (k:Int) ⟨x9,0,none⟩ hd.s.p hd.s.n hd.s.c (hd.s.n:Int) (k:Int) w':=by
   intro w' x9 p n c path e s a L he hn hh
   unfold J67_9
   with_reducible repeat' first|refine kk_ ?_|refine nx hh ?_|refine allW fun w' hh=>?_|exact sd_|refine ai ?_ ?_|exact vr|fail
   refine ifNe (fun h2=>?_) fun h2=>?_
   ·rw [if_pos h2] at he
    with_reducible refine zci hh fun w2 hh hb2=>?_
    have hh2:=litRow hh rfl (by simp)
    clear hh
    have hh:=hh2
    with_reducible repeat' first|refine kk_ ?_|refine nx hh ?_|refine allW fun w' hh=>?_|exact sd_|refine ai ?_ ?_|exact vr|fail
    have hrow:=hh.row (z:=1) (p:=some ⟨w'.heap.size,0,none⟩) (n:=1) (c:=1) (e:=3) (xs:=[.int .i64 (k:Int)]) (by repeat (first|exact m0|apply mS))
    have hsp:=hh.sees (SeeIn.pos (p:=p) (n:=n) (c:=c))
    have hint:∀ u∈ints path,u.oneCell'=true:=by
     intro u hu
     simp only [ints,List.mem_map] at hu
     obtain ⟨x,_,rfl⟩:=hu
     rfl
    refine appS hrow hsp (by decide) (by with_unfolding_all rfl) (by with_unfolding_all rfl) (by with_unfolding_all rfl) hint (by omega) (by decide) fun g9 cap9 w4 hr hext hfoot=>?_
    replace hh:=hh.turn (y:=.row 1 g9 (1+n) cap9 3 ([Value.int .i64 (k:Int)]++ints path)) .here hext hr fun i hi=>(hfoot i hi).imp id fun h=>Nat.le_of_eq h.symm
    with_reducible repeat' first|refine kk_ ?_|refine nx hh ?_|refine allW fun w' hh=>?_|exact sd_|refine ai ?_ ?_|exact vr|fail
    have hrow2:=hh.row (z:=1) (p:=g9) (n:=1+n) (c:=cap9) (e:=3) (xs:=[.int .i64 (k:Int)]++ints path) (by repeat (first|exact m0|apply mS))
    have:=kk g9 (1+n) cap9 ((k:Int)::path) s a _ ((rowSee hh).sublist (.cons_cons _ (by repeat (first|exact List.Sublist.refl _|apply List.Sublist.cons)))) (by omega) (fun ad had hpos=>by
     have h9:=hh.rowNew (z:=1) (p:=g9) (n:=1+n) (c:=cap9) (e:=3) (xs:=[.int .i64 (k:Int)]++ints path) (by repeat (first|exact m0|apply mS)) ad.block
     apply h9
     rcases hrow2.form with ⟨hv,_⟩|⟨g,c',hv,_⟩
     ·simp only [Value.slice.injEq] at hv;rw [hv.1] at had;cases had
     ·simp only [Value.slice.injEq] at hv;rw [hv.1] at had;cases had
      unfold Blk;rw [hv.1];simp [Value.ownBlock])
    rw [← he] at this
    exact this
   ·rw [if_neg (fun h=>h h2)] at he
    rw [i64w (by omega) (by omega)]
    refine (?_:L67_7 K (q+1) (some ⟨jb,0,none⟩) ⟨x2,0,none⟩ hd.s.p hd.s.n hd.s.c (hd.s.n:Int) ((k:Int)+1) w')
    exact_mod_cast ih (k+1) w' (by omega) he (hh.sublist (by repeat (first|exact List.Sublist.refl _|apply List.Sublist.cons)))
  have J8:∀ (x7:Int),x7=(if st.lays.getD k false=true then 1 else 2)→J67_8 K (L67_7 K (q+1)) (some ⟨jb,0,none⟩) ⟨x2,0,none⟩ (k:Int) xh.p xh.n xh.c x7 hd.s.p hd.s.n hd.s.c (hd.s.n:Int) (k:Int) w:=by
   intro x7 hx7
   subst hx7
   unfold J67_8
   with_reducible repeat' first|refine kk_ ?_|refine nx hh ?_|refine allW fun w' hh=>?_|exact sd_|refine ai ?_ ?_|exact vr|fail
   refine zdo (z:=1) (by with_unfolding_all rfl) (by with_unfolding_all rfl) (by omega) ?_
   first|rw [Nat.mul_one]|(dsimp only;rw [Nat.mul_one])
   repeat' first|(with_reducible first|refine kk_ ?_|refine nx hh ?_|refine allW fun w' hh=>?_|exact sd_|refine ldO (hh.own (b:=gl) (cs:=(zbr st.lays).toArray) (t:=4) (by repeat (first|exact m0|apply mS))) hlay ?_|refine And.intro ?_ ?_|exact vr)|fail
   refine zbt.to_V (f24 hsee (by omega) (fun e a he w1 hb=>?_) (fun C' hC' hd' w1 hb hca _=>?_))
   ·replace hh:=hh.bl hb
    have hne:=parse_err he
    rw [subT,he] at hq
    unfold rejV
    with_reducible repeat' first|refine kk_ ?_|refine nx hh ?_|refine allW fun w' hh=>?_|exact sd_|refine ai ?_ ?_|exact vr|fail
    have e0:(e == 0)=false:=by simpa using hne
    first|rw [e0]|(dsimp only;rw [e0])
    refine ifBf ?_
    have h2:=(rowSee (hh.rowNil 1 3)).swap
    exact J9 (path:=[]) (L:=[]) hq (by omega) (h2.sublist (.cons_cons _ (.cons_cons _ (.cons _ (.refl _)))))
   ·replace hh:=hh.bl hb
    have hp:=parseP hC'
    rw [subT,hC'] at hq
    simp only at hq
    unfold okV
    have hm:=hh
    clear hh
    have hh:=Hp.start w1
    with_reducible repeat' first|refine kk_ ?_|refine nx hh ?_|refine allW fun w' hh=>?_|exact sd_|refine ai ?_ ?_|exact vr|fail
    refine ifBt ?_
    with_reducible repeat' first|refine kk_ ?_|refine nx hh ?_|refine allW fun w' hh=>?_|exact sd_|refine ai ?_ ?_|exact vr|fail
    refine hJ (hca.bl hh.done) (fun x hx=>by have:=hp.sl x hx;omega) (by have:=hp.ct;have:=hp.c1;omega) (by have:=hp.c1;omega) (by have:=hp.s1;omega) fun p n c path s a w9 hb9 hs9 hn9 hf9=>?_
    have hm2:=takeOwn hm hh (by
     intro x hx k hk
     simp only [List.mem_cons,List.not_mem_nil,or_false] at hx
     rcases hx with rfl|rfl <;> exact hk)
    simp only [List.cons_append,List.nil_append] at hm2
    have hm3:=hm2.add (x:=.see 1 p n c (ints path)) hb9 hs9 (fun i hi=>by
     obtain ⟨h0,ad,had,rfl⟩:=hi
     have hl:=hs9.len
     exact hf9 ad had (by omega))
    clear hh
    have hh:=hm3
    unfold rejA
    with_reducible repeat' first|refine kk_ ?_|refine nx hh ?_|refine allW fun w' hh=>?_|exact sd_|refine ai ?_ ?_|exact vr|fail
    exact J9 (L:=[]) hq hn9 ((hh.swap).sublist (.cons_cons _ (.cons_cons _ (.cons _ (.refl _)))))
  with_reducible repeat' first|refine kk_ ?_|refine nx hh ?_|refine allW fun w' hh=>?_|exact sd_|refine ai ?_ ?_|exact vr|fail
  refine zdo (z:=1) (by with_unfolding_all rfl) (by with_unfolding_all rfl) (by omega) ?_
  first|rw [Nat.mul_one]|(dsimp only;rw [Nat.mul_one])
  repeat' first|(with_reducible first|refine kk_ ?_|refine nx hh ?_|refine allW fun w' hh=>?_|exact sd_|refine ldO (hh.own (b:=gl) (cs:=(zbr st.lays).toArray) (t:=4) (by repeat (first|exact m0|apply mS))) hlay ?_|refine And.intro ?_ ?_|exact vr)|fail
  cases hly:st.lays.getD k false with
  | true=>exact ifBt (J8 1 (by rw [hly];rfl))
  | false=>exact ifBf (J8 2 (by rw [hly];rfl))
end
section
variable {w0:World} {K:Value→World→Prop} {jb gm gl gc x2:Nat} {hd:Cd} {C:Cont} {kind:Int} {hs:List Hdr} {st:JS} {R:List Ent} {f:Nat} {J:Cont→Int→Int}
theorem anyRange {n k:Nat} {g:Nat→Bool} (hk:k < n) (h:g k=true):((List.range n).any g)=true:=by
 rw [List.any_eq_true]
 exact ⟨k,by rw [List.mem_range];exact hk,h⟩
theorem anyRangeF {n:Nat} {g:Nat→Bool} (h:∀ k,k < n→g k=false):((List.range n).any g)=false:=by
 rw [List.any_eq_false]
 intro k hk
 rw [List.mem_range] at hk
 rw [h k hk];decide
theorem ownSee {Z:Nat→Prop} {w:World} {L:List Ent} {b n:Nat} {cs:List Value} {e:TypeId} (h:Hp Z w0 w (.own b cs.toArray e::L)) (hn:cs.length=n):Hp Z w0 w (.see 1 (some ⟨b,0,none⟩) n n cs::L) :=
 h.less .here (Own.sees (h.own List.mem_cons_self) hn) (fun k hk=>hk.elim) fun k hk=>by
  obtain ⟨_,a,ha,rfl⟩:=hk
  cases ha;rfl
theorem f67 {w:World} {mm:Nat} (hJ:C.subs≠[]→Judges f J) (hmm:C.subs≠[]→f+2≤mm) (hmm1:1≤mm) (hC:ContAt w0 hd C) (hj:JOK C hs st) (hf:∀ x∈C.subs,x.length≤f+1) (hf2:f≤100000000) (hs1:C.subs.length≤256) (hh:Hp zan w0 w (JE jb gm gl gc hd C kind hs st R))
  (kk:∀ (p:Option Addr) (n c:Nat) (path:List Int) (s a:Int) (w':World),Hp zan w0 w' (.see 1 p n c (ints path)::R)→n≤mm→(∀ ad,p=some ad→0 < n→w0.heap.size≤ad.block)→K (rejA (zdn J C st) p n c s a) w') :
  zaj Tryz.prog 67 #[.pointer (some ⟨jb,0,none⟩)] w K:=by
 refine call67 _ _ _ ?_
 unfold F67
 have hsn:=hC.subs.n
 have hw0:=hh.ext.size
 with_reducible refine zci hh fun w1 hh hb1=>?_
 generalize w.heap.size=x2 at hh ⊢
 have hlay:∀ k,k < C.subs.length→(zbr st.lays).toArray[k]? = some (.bool (st.lays.getD k false)):=fun k hk=>by
  have:=bl0 (met:=st.lays) (k:=k) (by rw [hj.lays];exact hk)
  rwa [Nat.mul_one] at this
 have hmak:∀ k,k < C.subs.length→(zbr st.makes).toArray[k]? = some (.bool (st.makes.getD k false)):=fun k hk=>by
  have:=bl0 (met:=st.makes) (k:=k) (by rw [hj.makes];exact hk)
  rwa [Nat.mul_one] at this
 -- the last loop
 have J3:((List.range C.subs.length).any fun i=>!st.makes.getD i false && !st.lays.getD i false)=false→((List.range C.subs.length).any fun i=>st.makes.getD i false && st.lays.getD i false)=false →
   ∀ w',Hp zan w0 w' (E67 x2 jb gm gl gc hd C kind hs st R)→J67_3 K (some ⟨jb,0,none⟩) ⟨x2,0,none⟩ w':=by
  intro h1 h2 w' hh
  have e0:zdn J C st=nestL J st C.subs 0:=by rw [zdn,if_neg (by rw [h1];decide),if_neg (by rw [h2];decide)]
  unfold J67_3
  with_reducible repeat' first|refine kk_ ?_|refine nx hh ?_|refine allW fun w' hh=>?_|exact sd_|refine ai ?_ ?_|exact vr|fail
  refine ⟨C.subs.length+1,?_⟩
  have:=l67_7 (K:=K) (x2:=x2) hJ hmm hC hj hf hf2 hs1 (by rw [e0] at kk;exact kk) C.subs.length 0 w' (by omega) rfl hh
  exact_mod_cast this
 -- both
 have J0:((List.range C.subs.length).any fun i=>!st.makes.getD i false && !st.lays.getD i false)=false→∀ wq,Hp zan w0 wq (E67 x2 jb gm gl gc hd C kind hs st R)→J67_0 K (some ⟨jb,0,none⟩) ⟨x2,0,none⟩ wq:=by
  intro h1 wq hh
  unfold J67_0
  with_reducible repeat' first|refine kk_ ?_|refine nx hh ?_|refine allW fun w' hh=>?_|exact sd_|refine ai ?_ ?_|exact vr|fail
  refine ⟨C.subs.length+1,?_⟩
  have loop:∀ (q k:Nat),k+q=C.subs.length→(∀ j,j < k→(st.makes.getD j false && st.lays.getD j false)=false)→L67_4 K (q+1) (some ⟨jb,0,none⟩) ⟨x2,0,none⟩ (hd.s.n:Int) (k:Int) wq:=by
   intro q
   induction q with
   | zero =>
    intro k hk hq
    unfold L67_4
    refine ifD (fun h=>by omega) fun _=>J3 h1 (anyRangeF fun j hj=>hq j (by omega)) _ hh
   | succ q ih =>
    intro k hk hq
    unfold L67_4
    refine ifD (fun _=>?_) fun h=>by omega
    have J5:∀ b,(st.makes.getD k false && st.lays.getD k false)=b→J67_5 K (L67_4 K (q+1)) (some ⟨jb,0,none⟩) ⟨x2,0,none⟩ (k:Int) (hd.s.n:Int) (k:Int) b wq:=by
     intro b hb
     unfold J67_5
     cases b with
     | true =>
      refine ifBt ?_
      have e0:zdn J C st=89:=by rw [zdn,if_neg (by rw [h1];decide),if_pos (anyRange (k:=k) (by omega) hb)]
      rw [e0] at kk
      with_reducible repeat' first|refine kk_ ?_|refine nx hh ?_|refine allW fun w' hh=>?_|exact sd_|refine ai ?_ ?_|exact vr|fail
      exact kk _ _ _ [(k:Int)] 0 0 _ ((ownSee hh rfl).sublist (.cons_cons _ (by repeat (first|exact List.Sublist.refl _|apply List.Sublist.cons)))) (by omega) (fun ad had _=>by
       cases had;exact (hh.may _ (by repeat (first|exact m0|apply mS):Ent.own _ [Value.int .i64 (k:Int)].toArray 3∈_) _ rfl).elim (fun h=>h.elim) id)
     | false =>
      refine ifBf ?_
      first|rw [i64w (by omega) (by omega)]|(dsimp only;rw [i64w (by omega) (by omega)])
      refine (?_:L67_4 K (q+1) (some ⟨jb,0,none⟩) ⟨x2,0,none⟩ (hd.s.n:Int) ((k:Int)+1) wq)
      exact_mod_cast ih (k+1) (by omega) fun j hj=>by
       by_cases h:j=k
       ·subst h;exact hb
       ·exact hq j (by omega)
    have hl:=hlay k (by omega)
    have hm:=hmak k (by omega)
    with_reducible repeat' first|refine kk_ ?_|refine nx hh ?_|refine allW fun w' hh=>?_|exact sd_|refine ai ?_ ?_|exact vr|fail
    refine zdo (z:=1) (by with_unfolding_all rfl) (by with_unfolding_all rfl) (by omega) ?_
    first|rw [Nat.mul_one]|(dsimp only;rw [Nat.mul_one])
    repeat' first|(with_reducible first|refine kk_ ?_|refine nx hh ?_|refine allW fun w' hh=>?_|exact sd_|refine ldO (hh.own (b:=gm) (cs:=(zbr st.makes).toArray) (t:=4) (by repeat (first|exact m0|apply mS))) hm ?_|refine And.intro ?_ ?_|exact vr)|fail
    cases hmk:st.makes.getD k false with
    | false =>
     refine ifBf (J5 false (by rw [hmk];rfl))
    | true =>
     refine ifBt ?_
     with_reducible repeat' first|refine kk_ ?_|refine nx hh ?_|refine allW fun w' hh=>?_|exact sd_|refine ai ?_ ?_|exact vr|fail
     refine zdo (z:=1) (by with_unfolding_all rfl) (by with_unfolding_all rfl) (by omega) ?_
     first|rw [Nat.mul_one]|(dsimp only;rw [Nat.mul_one])
     repeat' first|(with_reducible first|refine kk_ ?_|refine nx hh ?_|refine allW fun w' hh=>?_|exact sd_|refine ldO (hh.own (b:=gl) (cs:=(zbr st.lays).toArray) (t:=4) (by repeat (first|exact m0|apply mS))) hl ?_|refine And.intro ?_ ?_|exact vr)|fail
     exact J5 _ (by rw [hmk];rfl)
  exact_mod_cast loop C.subs.length 0 (by omega) (fun j hj=>by omega)
 with_reducible repeat' first|refine kk_ ?_|refine nx hh ?_|refine allW fun w' hh=>?_|exact sd_|refine ai ?_ ?_|exact vr|fail
 refine ⟨C.subs.length+1,?_⟩
 have loop:∀ (q k:Nat),k+q=C.subs.length→(∀ j,j < k→(!st.makes.getD j false && !st.lays.getD j false)=false)→L67_1 K (q+1) (some ⟨jb,0,none⟩) ⟨x2,0,none⟩ (hd.s.n:Int) (k:Int) w1:=by
  intro q
  induction q with
  | zero =>
   intro k hk hq
   unfold L67_1
   refine ifD (fun h=>by omega) fun _=>J0 (anyRangeF fun j hj=>hq j (by omega)) _ hh
  | succ q ih =>
   intro k hk hq
   unfold L67_1
   refine ifD (fun _=>?_) fun h=>by omega
   have J2:∀ b,(!st.makes.getD k false && !st.lays.getD k false)=b→J67_2 K (L67_1 K (q+1)) (some ⟨jb,0,none⟩) ⟨x2,0,none⟩ (k:Int) (hd.s.n:Int) (k:Int) b w1:=by
    intro b hb
    unfold J67_2
    cases b with
    | true =>
     refine ifBt ?_
     have e0:zdn J C st=88:=by rw [zdn,if_pos (anyRange (k:=k) (by omega) hb)]
     rw [e0] at kk
     with_reducible repeat' first|refine kk_ ?_|refine nx hh ?_|refine allW fun w' hh=>?_|exact sd_|refine ai ?_ ?_|exact vr|fail
     exact kk _ _ _ [(k:Int)] 0 0 _ ((ownSee hh rfl).sublist (.cons_cons _ (by repeat (first|exact List.Sublist.refl _|apply List.Sublist.cons)))) (by omega) (fun ad had _=>by
      cases had;exact (hh.may _ (by repeat (first|exact m0|apply mS):Ent.own _ [Value.int .i64 (k:Int)].toArray 3∈_) _ rfl).elim (fun h=>h.elim) id)
    | false =>
     refine ifBf ?_
     first|rw [i64w (by omega) (by omega)]|(dsimp only;rw [i64w (by omega) (by omega)])
     refine (?_:L67_1 K (q+1) (some ⟨jb,0,none⟩) ⟨x2,0,none⟩ (hd.s.n:Int) ((k:Int)+1) w1)
     exact_mod_cast ih (k+1) (by omega) fun j hj=>by
      by_cases h:j=k
      ·subst h;exact hb
      ·exact hq j (by omega)
   have hl:=hlay k (by omega)
   have hm:=hmak k (by omega)
   with_reducible repeat' first|refine kk_ ?_|refine nx hh ?_|refine allW fun w' hh=>?_|exact sd_|refine ai ?_ ?_|exact vr|fail
   refine zdo (z:=1) (by with_unfolding_all rfl) (by with_unfolding_all rfl) (by omega) ?_
   first|rw [Nat.mul_one]|(dsimp only;rw [Nat.mul_one])
   repeat' first|(with_reducible first|refine kk_ ?_|refine nx hh ?_|refine allW fun w' hh=>?_|exact sd_|refine ldO (hh.own (b:=gm) (cs:=(zbr st.makes).toArray) (t:=4) (by repeat (first|exact m0|apply mS))) hm ?_|refine And.intro ?_ ?_|exact vr)|fail
   cases hmk:st.makes.getD k false with
   | true =>
    refine zcj (J2 false (by rw [hmk];rfl))
   | false =>
    refine zco ?_
    with_reducible repeat' first|refine kk_ ?_|refine nx hh ?_|refine allW fun w' hh=>?_|exact sd_|refine ai ?_ ?_|exact vr|fail
    refine zdo (z:=1) (by with_unfolding_all rfl) (by with_unfolding_all rfl) (by omega) ?_
    first|rw [Nat.mul_one]|(dsimp only;rw [Nat.mul_one])
    repeat' first|(with_reducible first|refine kk_ ?_|refine nx hh ?_|refine allW fun w' hh=>?_|exact sd_|refine ldO (hh.own (b:=gl) (cs:=(zbr st.lays).toArray) (t:=4) (by repeat (first|exact m0|apply mS))) hl ?_|refine And.intro ?_ ?_|exact vr)|fail
    exact J2 _ (by rw [hmk];rfl)
 exact_mod_cast loop C.subs.length 0 (by omega) (fun j hj=>by omega)
end
def st00 (C:Cont):JS:=⟨List.replicate C.subs.length false,List.replicate C.subs.length false,List.replicate C.codes.length []⟩
def zap (C:Cont) (kind:Int):List Nat→JS→Int × JS
 | [],st=>(0,st)
 | s::r,st=>if (zba C kind s st).1≠0 then zba C kind s st else zap C kind r (zba C kind s st).2
open Classical in
noncomputable def zcf:Nat→Cont→Int→Int
 | 0,_,_=>0
 | f+1,C,kind =>
  if kind≠1∧kind≠2 then 1 else if zbo C≠0 then zbo C else
  if (zap C kind (List.range C.codes.length) (st00 C)).1≠0 then (zap C kind (List.range C.codes.length) (st00 C)).1 else
  if ApartP (zap C kind (List.range C.codes.length) (st00 C)).2.calls C.codes.length then 87 else
  zdn (zcf f) C (zap C kind (List.range C.codes.length) (st00 C)).2
theorem rowsNew {Z:Nat→Prop} {w0 w:World} {L:List Ent} {gc n:Nat} {t e:TypeId} (hh:Hp Z w0 w (.own gc (List.replicate n (Value.slice none 0 0)).toArray t::L)) :
  Hp Z w0 w (rowsE gc t e (List.replicate n ⟨none,0,0⟩) ((List.replicate n []).map ints)::L):=by
 have ho:=hh.own List.mem_cons_self
 have nob:∀ (k:Nat) (h:Hdr) (g:Nat),(List.replicate n (⟨none,0,0⟩:Hdr))[k]? = some h→¬ Blk h.v g:=by
  intro k h g hk
  have:=List.mem_of_getElem? hk
  rw [List.mem_replicate] at this
  rw [this.2]
  unfold Blk
  simp [Value.ownBlock]
 have hat:RowsAt w gc t e (List.replicate n ⟨none,0,0⟩) ((List.replicate n []).map ints):=by
  refine ⟨by rw [List.map_replicate];exact ho,by simp,fun k h l h1 h2=>?_,fun j k x y g h1 h2 h3=>absurd h3 (nob j x g h1),fun k h h1=>nob k h gc h1⟩
  have g1:=List.mem_of_getElem? h1
  have g2:=List.mem_of_getElem? h2
  rw [List.mem_replicate] at g1
  rw [List.map_replicate,List.mem_replicate] at g2
  rw [g1.2,g2.2]
  exact RowZ.nil w 1 e
 refine Hp.recast (M:=[.own gc (List.replicate n (Value.slice none 0 0)).toArray t]) (N:=[rowsE gc t e (List.replicate n ⟨none,0,0⟩) ((List.replicate n []).map ints)]) hh ?_ (List.pairwise_singleton _ _) ?_ ?_
 ·intro x hx
  simp only [List.mem_singleton] at hx
  subst hx
  exact rowsE_on hat
 all_goals
  intro x hx k hk
  simp only [List.mem_singleton] at hx
  subst hx
  refine ⟨_,List.mem_cons_self,?_⟩
  rcases hk with hk|⟨y,hy,hb⟩
  ·exact hk
  ·obtain ⟨j,hj,hy⟩:=List.getElem_of_mem hy
   exact absurd hb (nob j y k (by rw [List.getElem?_eq_getElem hj,hy]))
theorem namesT_calls {C : Cont} {kind : Int} {st0 : List Bool} {s : Nat} {i : Ins} {st : JS} (k : Nat) : ((zca C kind st0 s i st).2.calls.getD k []) = st.calls.getD k [] ∨ (k = s ∧ (zae i).1 < C.types.length ∧ (zca C kind st0 s i st).2.calls.getD k [] = st.calls.getD k [] ++ [(zae i).1]) := by
  unfold zca
  repeat' split
  all_goals first
    | exact .inl rfl
    | (by_cases hk : s = k
       · subst hk
         by_cases hs : s < st.calls.length
         · right
           refine ⟨rfl, by omega, ?_⟩
           simp only
           rw [List.getD_eq_getElem?_getD, List.getElem?_set_self hs]; rfl
         · left
           simp only
           rw [List.set_eq_of_length_le (by omega)]
       · left
         simp only
         rw [List.getD_eq_getElem?_getD, List.getElem?_set_ne hk, ← List.getD_eq_getElem?_getD])
structure CallsOK (C:Cont) (s:Nat) (st:JS):Prop where
 len:∀ k,(st.calls.getD k []).length≤65535
 rng:∀ k,∀ n∈st.calls.getD k [],0≤n∧n < C.types.length
 nil:∀ k,s≤k→st.calls.getD k []=[]
theorem namesL_calls {C:Cont} {kind:Int} {st0:List Bool} {s:Nat}:∀ {d:List Ins} {st:JS} (k:Nat),(k≠s→(zbv C kind st0 s d st).2.calls.getD k []=st.calls.getD k []) ∧
  ((zbv C kind st0 s d st).2.calls.getD k []).length≤(st.calls.getD k []).length+d.length∧((∀ n∈st.calls.getD k [],0≤n∧n < C.types.length)→∀ n∈(zbv C kind st0 s d st).2.calls.getD k [],0≤n∧n < C.types.length)
 | [],st,k=>⟨fun _=>rfl,by simp [zbv],fun h=>h⟩
 | i::d,st,k=>by
  have h1:=namesT_calls (C:=C) (kind:=kind) (st0:=st0) (s:=s) (i:=i) (st:=st) k
  have hn0:=zdk i
  unfold zbv
  split
  ·refine ⟨fun hk=>?_,?_,fun h=>?_⟩
   ·rcases h1 with h|⟨h,_,_⟩
    ·exact h
    ·exact absurd h hk
   ·rcases h1 with h|⟨_,_,h⟩
    ·rw [h];omega
    ·rw [h];simp
   ·rcases h1 with h2|⟨_,h3,h2⟩
    ·rw [h2];exact h
    ·rw [h2]
     intro n hn
     rcases List.mem_append.1 hn with hn|hn
     ·exact h n hn
     ·simp only [List.mem_singleton] at hn;subst hn;exact ⟨hn0.1,h3⟩
  ·obtain ⟨a1,a2,a3⟩:=namesL_calls (C:=C) (kind:=kind) (st0:=st0) (s:=s) (d:=d) (st:=(zca C kind st0 s i st).2) k
   refine ⟨fun hk=>?_,?_,fun h=>a3 ?_⟩
   ·rw [a1 hk]
    rcases h1 with h|⟨h,_,_⟩
    ·exact h
    ·exact absurd h hk
   ·rcases h1 with h|⟨_,_,h⟩
    ·rw [h] at a2;simp only [List.length_cons];omega
    ·rw [h] at a2;simp only [List.length_append,List.length_cons,List.length_nil] at a2 ⊢;omega
   ·rcases h1 with h2|⟨_,h3,h2⟩
    ·rw [h2];exact h
    ·rw [h2]
     intro n hn
     rcases List.mem_append.1 hn with hn|hn
     ·exact h n hn
     ·simp only [List.mem_singleton] at hn;subst hn;exact ⟨hn0.1,h3⟩
theorem sectionT_calls {C:Cont} {kind:Int} {s:Nat} {st:JS} (hK:CheckP C) (h:CallsOK C s st):CallsOK C (s+1) (zba C kind s st).2:=by
 have keep:CallsOK C (s+1) st:=⟨h.len,h.rng,fun k hk=>h.nil k (by omega)⟩
 unfold zba
 cases hs:zdz (C.codes.getD s []) with
 | error x=>exact keep
 | ok d =>
  have hd:=(scanT_ok hs).1
  have hal:=zdm (C.codes.getD s [])
  have hcl:(C.codes.getD s []).length≤65535:=by
   rw [List.getD_eq_getElem?_getD]
   cases hg:C.codes[s]? with
   | none=>simp
   | some l=>exact (hK.cl l (List.mem_of_getElem? hg)).2
  have hdl:d.length≤65535:=by rw [hd];omega
  have key:CallsOK C (s+1) (zbv C kind (zbj (C.codes.getD s [])) s d st).2:=by
   refine ⟨fun k=>?_,fun k=>?_,fun k hk=>?_⟩
   ·obtain ⟨a1,a2,a3⟩:=namesL_calls (C:=C) (kind:=kind) (st0:=zbj (C.codes.getD s [])) (s:=s) (d:=d) (st:=st) k
    by_cases hks:k=s
    ·subst hks
     rw [h.nil k (Nat.le_refl k)] at a2
     simp only [List.length_nil] at a2;omega
    ·rw [a1 hks];exact h.len k
   ·exact (namesL_calls (C:=C) (kind:=kind) (st0:=zbj (C.codes.getD s [])) (s:=s) (d:=d) (st:=st) k).2.2 (h.rng k)
   ·rw [(namesL_calls (C:=C) (kind:=kind) (st0:=zbj (C.codes.getD s [])) (s:=s) (d:=d) (st:=st) k).1 (by omega)]
    exact h.nil k (by omega)
  simp only
  split
  ·exact key
  ·exact key
theorem st00_ok (C:Cont):CallsOK C 0 (st00 C):=by
 have h:∀ k,(st00 C).calls.getD k []=[]:=by
  intro k
  rw [List.getD_eq_getElem?_getD]
  cases hg:(st00 C).calls[k]? with
  | none=>rfl
  | some l =>
   have:=List.mem_of_getElem? hg
   unfold st00 at this
   rw [List.mem_replicate] at this
   rw [this.2];rfl
 exact ⟨fun k=>by rw [h];simp,fun k n hn=>by rw [h] at hn;simp at hn,fun k _=>h k⟩
section
variable {w0:World} {K:Value→World→Prop} {jb gm gl gc x2 x4:Nat} {hd:Cd} {C:Cont} {kind:Int} {R:List Ent} {f:Nat}
abbrev X4 (x4:Nat):Ent:=.own x4 #[.int .i64 0,.slice none 0 0,.int .i64 0,.int .i64 0] 31
theorem j29_2 {w:World} {hs:List Hdr} {st:JS} {mm:Nat} {J:Cont→Int→Int} (hJ:C.subs≠[]→Judges f J) (hmm:C.subs≠[]→f+2≤mm) (hmm1:1≤mm) (hC:ContAt w0 hd C) (hK:CheckP C) (hj:JOK C hs st) (hc:CallsOK C C.codes.length st) (hf:∀ x∈C.subs,x.length≤f+1) (hf2:f≤100000000)
  (hh:Hp zan w0 w (JE jb gm gl gc hd C kind hs st (X4 x4::R))) {res:Int} (hr1:ApartP st.calls C.codes.length→res=87) (hr2:¬ ApartP st.calls C.codes.length→res=zdn J C st)
  (kk:∀ (p:Option Addr) (n c:Nat) (path:List Int) (s a:Int) (w':World),Bl w0 w'→Sees w' 1 p n c (ints path)→n≤mm→(∀ ad,p=some ad→0 < n→w0.heap.size≤ad.block)→K (rejA res p n c s a) w') :
  J29_2 K ⟨x4,0,none⟩ ⟨jb,0,none⟩ w:=by
 unfold J29_2
 have hval:∀ (k:Nat) (l:List Int),st.calls[k]? = some l→l.length≤1000000∧∀ n∈l,0≤n∧n < (C.codes.length:Int):=by
  intro k l hl
  have hg:st.calls.getD k []=l:=by rw [List.getD_eq_getElem?_getD,hl];rfl
  have h1:=hc.len k
  have h2:=hc.rng k
  rw [hg] at h1 h2
  have:=hK.ct
  exact ⟨by omega,fun n hn=>by have:=h2 n hn;omega⟩
 refine f66 hj rfl hK.c0 hK.c1 hC.codes.n hval hh fun s b w1 hb hh=>?_
 with_reducible repeat' first|refine kk_ ?_|refine nx hh ?_|refine allW fun w' hh=>?_|exact sd_|refine ai ?_ ?_|exact vr|fail
 cases b with
 | true =>
  refine ifBt ?_
  have hr:=hr1 (hb.1 rfl)
  with_reducible repeat' first|refine kk_ ?_|refine nx hh ?_|refine allW fun w' hh=>?_|exact sd_|refine ai ?_ ?_|exact vr|fail
  have:=kk none 0 0 [] s 0 _ hh.done (Sees.nil _ 1) (by omega) (fun ad h=>by cases h)
  rw [hr] at this
  exact this
 | false =>
  have hnb:¬ ApartP st.calls C.codes.length:=fun h=>by have:=hb.2 h;cases this
  have hr:=hr2 hnb
  refine ifBf ?_
  refine f67 (w0:=w0) hJ hmm hmm1 hC hj hf hf2 hK.s1 hh fun p n c path s' a' w2 hh hn2 hf9=>?_
  unfold rejA
  with_reducible repeat' first|refine kk_ ?_|refine nx hh ?_|refine allW fun w' hh=>?_|exact sd_|refine ai ?_ ?_|exact vr|fail
  have:=kk p n c path s' a' _ hh.done (hh.sees (SeeIn.pos (p:=p) (n:=n) (c:=c))) hn2 hf9
  rw [hr] at this
  exact this
theorem l29_3 {mm:Nat} {J:Cont→Int→Int} (hJ:C.subs≠[]→Judges f J) (hmm:C.subs≠[]→f+2≤mm) (hmm1:1≤mm) (hC:ContAt w0 hd C) (hK:CheckP C) (hf:∀ x∈C.subs,x.length≤f+1) (hf2:f≤100000000) {res:Int}
  (kk:∀ (p:Option Addr) (n c:Nat) (path:List Int) (s a:Int) (w':World),Bl w0 w'→Sees w' 1 p n c (ints path)→n≤mm→(∀ ad,p=some ad→0 < n→w0.heap.size≤ad.block)→K (rejA res p n c s a) w') :
  ∀ (q k:Nat) (w:World) (hs:List Hdr) (st:JS),k+q=C.codes.length→JOK C hs st→CallsOK C k st→Hp zan w0 w (JE jb gm gl gc hd C kind hs st (X4 x4::R)) →
   ((zap C kind (List.range' k q) st).1≠0→res=(zap C kind (List.range' k q) st).1) →
   ((zap C kind (List.range' k q) st).1=0→ApartP (zap C kind (List.range' k q) st).2.calls C.codes.length→res=87) →
   ((zap C kind (List.range' k q) st).1=0→¬ ApartP (zap C kind (List.range' k q) st).2.calls C.codes.length→res=zdn J C (zap C kind (List.range' k q) st).2) →
   L29_3 K (q+1) ⟨x4,0,none⟩ ⟨jb,0,none⟩ (C.codes.length:Int) (k:Int) w:=by
 have hcn:=hC.codes.n
 intro q
 induction q with
 | zero =>
  intro k w hs st hk hj hc hh h1 h2 h3
  unfold L29_3
  refine ifD (fun h=>by omega) fun _=>?_
  have hkc:k=C.codes.length:=by omega
  subst hkc
  exact j29_2 hJ hmm hmm1 hC hK hj hc hf hf2 hh (h2 rfl) (h3 rfl) kk
 | succ q ih =>
  intro k w hs st hk hj hc hh h1 h2 h3
  unfold L29_3
  refine ifD (fun _=>?_) fun h=>by omega
  rw [List.range'_succ,zap] at h1 h2 h3
  refine f65 hC hK (by omega) hj (hc.nil k (Nat.le_refl k)) hh fun a hs' w1 hj' hh=>?_
  with_reducible repeat' first|refine kk_ ?_|refine nx hh ?_|refine allW fun w' hh=>?_|exact sd_|refine ai ?_ ?_|exact vr|fail
  refine ifNe (fun hn=>?_) fun hn=>?_
  ·rw [if_pos hn] at h1
   have hr:=h1 hn
   with_reducible repeat' first|refine kk_ ?_|refine nx hh ?_|refine allW fun w' hh=>?_|exact sd_|refine ai ?_ ?_|exact vr|fail
   have hc1:=hK.c1
   have:=kk none 0 0 [] k a _ hh.done (Sees.nil _ 1) (by omega) (fun ad h=>by cases h)
   rw [hr] at this
   exact this
  ·rw [if_neg (fun h=>h hn)] at h1 h2 h3
   have hc1:=hK.c1
   first|rw [i64w (by omega) (by omega)]|(dsimp only;rw [i64w (by omega) (by omega)])
   refine (?_:L29_3 K (q+1) ⟨x4,0,none⟩ ⟨jb,0,none⟩ (C.codes.length:Int) ((k:Int)+1) w1)
   exact_mod_cast ih (k+1) w1 hs' _ (by omega) hj' (sectionT_calls hK hc) hh h1 h2 h3
theorem pick5 {Z:Nat→Prop} {w:World} {a b c d e g:Ent} {L L1 L2 L3 L4 L5:List Ent} (h:Hp Z w0 w (a::L)) (p1:Pick L b L1) (p2:Pick L1 c L2) (p3:Pick L2 d L3) (p4:Pick L3 e L4) (p5:Pick L4 g L5):Hp Z w0 w (a::b::c::d::e::g::L5) :=
 h.perm ((p1.perm.trans ((p2.perm.trans ((p3.perm.trans ((p4.perm.trans (p5.perm.cons _)).cons _)).cons _)).cons _)).cons _)
theorem f29 {w:World} {mm:Nat} {J:Cont→Int→Int} (hJ:zbo C=0→C.subs≠[]→Judges f J) (hmm:zbo C=0→C.subs≠[]→f+2≤mm) (hmm1:1≤mm) (hC:ContAt w hd C) (hf:∀ x∈C.subs,x.length≤f+1) (hf2:f≤100000000) (hl1:C.types.length≤1000000) (hl2:C.codes.length≤1000000) (hl3:C.subs.length≤1000000) {res:Int}
  (h0:kind≠1∧kind≠2→res=1) (h1:¬ (kind≠1∧kind≠2)→zbo C≠0→res=zbo C)
  (h2:¬ (kind≠1∧kind≠2)→zbo C=0→(zap C kind (List.range C.codes.length) (st00 C)).1≠0→res=(zap C kind (List.range C.codes.length) (st00 C)).1)
  (h3:¬ (kind≠1∧kind≠2)→zbo C=0→(zap C kind (List.range C.codes.length) (st00 C)).1=0→ApartP (zap C kind (List.range C.codes.length) (st00 C)).2.calls C.codes.length→res=87)
  (h4:¬ (kind≠1∧kind≠2)→zbo C=0→(zap C kind (List.range C.codes.length) (st00 C)).1=0→¬ ApartP (zap C kind (List.range C.codes.length) (st00 C)).2.calls C.codes.length→res=zdn J C (zap C kind (List.range C.codes.length) (st00 C)).2)
  (kk:∀ (p:Option Addr) (n c:Nat) (path:List Int) (s a:Int) (w':World),Bl w w'→Sees w' 1 p n c (ints path)→n≤mm→(∀ ad,p=some ad→0 < n→w.heap.size≤ad.block)→K (rejA res p n c s a) w') :
  zaj Tryz.prog 29 #[contV hd C,.int .i64 kind] w K:=by
 refine call29 _ _ _ _ _ _ _ _ _ _ _ _ _ _ _ _ ?_
 unfold F29
 have hh:=Hp.start w
 have htn:=hC.tn
 have hcn:=hC.codes.n
 have hsn:=hC.subs.n
 with_reducible refine zci hh fun w1 hh hb1=>?_
 with_reducible refine zci hh fun w2 hh hb2=>?_
 have hsz:=hb1.size
 generalize hx2:w.heap.size=x2 at hh ⊢
 generalize hx4:w1.heap.size=x4 at hh ⊢
 have J0:¬ (kind≠1∧kind≠2)→J29_0 K kind ⟨x2,0,none⟩ ⟨x4,0,none⟩ w2:=by
  intro hk
  unfold J29_0
  with_reducible repeat' first|refine kk_ ?_|refine nx hh ?_|refine allW fun w' hh=>?_|exact sd_|refine ai ?_ ?_|exact vr|fail
  refine f64 (hC.bl hh.done) (by omega) (by omega) (by omega) fun w3 hb3=>?_
  replace hh:=hh.bl hb3
  refine kI (ifNe (fun hn=>?_) fun hn=>?_)
  ·have hr:=h1 hk hn
   with_reducible repeat' first|refine kk_ ?_|refine nx hh ?_|refine allW fun w' hh=>?_|exact sd_|refine ai ?_ ?_|exact vr|fail
   have:=kk none 0 0 [] 0 0 _ hh.done (Sees.nil _ 1) (by omega) (fun ad h=>by cases h)
   rw [hr] at this
   exact this
  ·have hK:=checkP hn
   have hJ1:∀ {jb gm gl gc:Nat} {w':World} {R:List Ent},Hp zan w w' (.own jb (judgeC hd C kind gm gl gc) 143::.own gm (List.replicate hd.s.n (Value.bool false)).toArray 4::.own gl (List.replicate hd.s.n (Value.bool false)).toArray 4::.own gc (List.replicate hd.c.n (Value.slice none 0 0)).toArray 29::.own x2 #[hd.t.v,hd.c.v,hd.s.v,hd.d.v,.int .i64 C.size] 27::X4 x4::R) →
     J29_1 K ⟨x2,0,none⟩ ⟨x4,0,none⟩ ⟨jb,0,none⟩ w':=by
    intro jb gm gl gc w' R hh
    unfold J29_1
    with_reducible repeat' first|refine kk_ ?_|refine nx hh ?_|refine allW fun w' hh=>?_|exact sd_|refine ai ?_ ?_|exact vr|fail
    first|rw [hcn]|(dsimp only;rw [hcn])
    refine ⟨C.codes.length+1,?_⟩
    have hh2:=rowsNew (e:=3) (hh.front (x:=.own gc (List.replicate hd.c.n (Value.slice none 0 0)).toArray 29) (by repeat (first|exact Pick.here|apply Pick.there)))
    rw [hcn,hsn,repC_bools] at hh2
    have hh3:=(((hh2.front (x:=X4 x4) (by repeat (first|exact Pick.here|apply Pick.there))).front (x:=rowsE gc 29 3 _ _) (by repeat (first|exact Pick.here|apply Pick.there))).front (x:=.own gl (zbr (List.replicate C.subs.length false)).toArray 4) (by repeat (first|exact Pick.here|apply Pick.there))).front (x:=.own gm (zbr (List.replicate C.subs.length false)).toArray 4) (by repeat (first|exact Pick.here|apply Pick.there)) |>.front (x:=.own jb _ 143) (by repeat (first|exact Pick.here|apply Pick.there))
    have hrng:List.range C.codes.length=List.range' 0 C.codes.length:=List.range_eq_range'
    rw [hrng] at h2 h3 h4
    refine (?_:L29_3 K (C.codes.length+1) ⟨x4,0,none⟩ ⟨jb,0,none⟩ (C.codes.length:Int) ((0:Nat):Int) w')
    exact l29_3 (hJ hn) (hmm hn) hmm1 hC hK hf hf2 kk C.codes.length 0 w' (List.replicate C.codes.length ⟨none,0,0⟩) (st00 C) (by omega) ⟨by simp [st00],by simp [st00],by simp [st00],by simp⟩ (st00_ok C) hh3 (h2 hk hn) (h3 hk hn) (h4 hk hn)
   repeat' first|(with_reducible first|refine kk_ ?_|refine nx hh ?_|refine allW fun w' hh=>?_|exact sd_|refine makeN (z:=.bool false) hh (by with_unfolding_all rfl) (by with_unfolding_all rfl) (by with_unfolding_all rfl) (by omega) (by decide) fun w' hh _=>?_|refine makeN (z:=.slice none 0 0) hh (by with_unfolding_all rfl) (by with_unfolding_all rfl) (by with_unfolding_all rfl) (by omega) (by decide) fun w' hh _=>?_|exact True.intro|refine And.intro ?_ ?_|exact vr)|fail
   all_goals
    have hA:=hh.front (x:=.own _ (judgeC hd C kind _ _ _) 143) (by repeat (first|exact Pick.here|apply Pick.there))
    exact hJ1 (pick5 hA (by repeat (first|exact Pick.here|apply Pick.there)) (by repeat (first|exact Pick.here|apply Pick.there)) (by repeat (first|exact Pick.here|apply Pick.there)) (by repeat (first|exact Pick.here|apply Pick.there)) (by repeat (first|exact Pick.here|apply Pick.there)))
 refine ifNe (fun hk1=>ifNe (fun hk2=>?_) fun hk2=>J0 (by omega)) fun hk1=>J0 (by omega)
 have hr:=h0 ⟨hk1,hk2⟩
 with_reducible repeat' first|refine kk_ ?_|refine nx hh ?_|refine allW fun w' hh=>?_|exact sd_|refine ai ?_ ?_|exact vr|fail
 have:=kk none 0 0 [] 0 0 _ hh.done (Sees.nil _ 1) (by omega) (fun ad h=>by cases h)
 rw [hr] at this
 exact this
theorem judges:∀ f:Nat,f≤100000000→Judges f (zcf (f+1))
 | 0,_=>by
  intro w hd C kind K hC hf hl1 hl2 hl3 kk
  have h0:zbo C=0→C.subs=[]:=fun h=>by
   have hK:=checkP h
   cases hs:C.subs with
   | nil=>rfl
   | cons x r =>
    have h1:=hf x (by rw [hs];simp)
    have h2:=hK.sl x (by rw [hs];simp)
    omega
  exact f29 (f:=0) (mm:=1) (J:=zcf 0) (fun g h=>absurd (h0 g) h) (fun g h=>absurd (h0 g) h) (by omega) hC (fun x hx=>by have:=hf x hx;omega) (by omega) hl1 hl2 hl3
   (fun h=>by rw [zcf,if_pos h]) (fun h g=>by rw [zcf,if_neg h,if_pos g]) (fun h g k=>by rw [zcf,if_neg h,if_neg (fun x=>x g),if_pos k]) (fun h g k m=>by rw [zcf,if_neg h,if_neg (fun x=>x g),if_neg (fun x=>x k),if_pos m])
   (fun h g k m=>by rw [zcf,if_neg h,if_neg (fun x=>x g),if_neg (fun x=>x k),if_neg m]) kk
 | f+1,hle=>by
  intro w hd C kind K hC hf hl1 hl2 hl3 kk
  exact f29 (f:=f) (mm:=f+1+1) (J:=zcf (f+1)) (fun _ _=>judges f (by omega)) (fun _ _=>by omega) (by omega) hC hf (by omega) hl1 hl2 hl3
   (fun h=>by rw [zcf,if_pos h]) (fun h g=>by rw [zcf,if_neg h,if_pos g]) (fun h g k=>by rw [zcf,if_neg h,if_neg (fun x=>x g),if_pos k]) (fun h g k m=>by rw [zcf,if_neg h,if_neg (fun x=>x g),if_neg (fun x=>x k),if_pos m])
   (fun h g k m=>by rw [zcf,if_neg h,if_neg (fun x=>x g),if_neg (fun x=>x k),if_neg m]) kk
end
end Go.Proofs.YtlfhngoeecjfpaaGreatDoor.B
