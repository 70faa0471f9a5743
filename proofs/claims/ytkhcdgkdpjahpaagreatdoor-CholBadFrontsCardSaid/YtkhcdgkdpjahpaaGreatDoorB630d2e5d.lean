/-
  Parts of the proof: Fw25, Fw36, Fw46, Fw47, Pl1, Fs, Dn20, Dn21, TwS, Dn20b, Dn22, Dn24a, Dn24, Tw24, Ok24, Pa1, Pl2, Pl3, Pl5, Th1: the framework (Fw), pure forms (Dn), plain laws (Pl, Th), calls of functions (Ok).
-/
import Derived.ProofKit
import Derived.Handed
import Derived.KernelRfl
import Derived.Lib.SlicesCompact
import Derived.RangeFuncBox
import Derived.RangeFuncLeaves
import Derived.Shelf.Abstract
import Derived.WalkKit
import Derived.OwnWalkIn
import Derived.TacticsInMore
import Derived.LoopNIn
import Derived.LoopIn
import Derived.Maps.AppendAt
import Derived.Shelf.Slices.CompactI
import Derived.Lib.OwnBridge
import Derived.Test.YtkhcdgkdpjahpaaGreatDoorProg
import Derived.Test.YtkhcdgkdpjahpaaGreatDoorB2a996354

set_option linter.all false
set_option maxHeartbeats 1000000
noncomputable section
namespace Go.h2
variable{a c:Nat}{b:ad5}{d:Type}{e:Int}{f:Value}{g:List fQ}{h:List aj}{i:World}{j:List ResultVar}{k:dg->Nat->Prop}{l:Func}{m:Nat->Prop}
section
def l9:Nat->(f:List fQ)->fW f->List (Nat×ao)
 |_,[],_=>[]
 |k,.v g::b,a=>(k,.val g a.1)::l9 (k+1) b a.2
 |k,.m _::b,a=>(k,.ref k [])::l9 (k+1) b a.2
 |k,.o _::b,a=>(k,.ref k [])::l9 (k+1) b a.2
 |k,.c e h::b,a=>(k,.dv e ((hM h a.1).map λd=>.val d.1 d.2))::l9 (k+1) b a.2
 |k,.n::b,a=>(k,.cv (.slice none 0 0))::l9 (k+1) b a.2
 |k,.w _::b,a=>(k,.view k [] a.1.2.1 a.1.2.2)::l9 (k+1) b a.2
 |k,.s _ _::b,a=>l9 (k+1) b a.2
def ma:Nat->(e:List fQ)->fW e->List (Nat×aH)
 |_,[],_=>[]
 |k,.v _::b,a=>ma (k+1) b a.2
 |k,.m d::b,a=>(k,⟨d,a.1⟩)::ma (k+1) b a.2
 |k,.o d::b,a=>(k,⟨d,a.1⟩)::ma (k+1) b a.2
 |k,.c _ _::b,a=>ma (k+1) b a.2
 |k,.n::b,a=>ma (k+1) b a.2
 |k,.w f::b,a=>(k,⟨.osl f,a.1.1⟩)::ma (k+1) b a.2
 |k,.s _ _::b,a=>ma (k+1) b a.2
def iE:Nat->List fQ->ad4
 |_,[]=>[]
 |k,.m _::a=>k::iE (k+1) a
 |k,.v _::a=>iE (k+1) a
 |k,.o _::a=>iE (k+1) a
 |k,.c _ _::a=>iE (k+1) a
 |k,.n::a=>iE (k+1) a
 |k,.w _::a=>k::iE (k+1) a
 |k,.s _ _::a=>iE (k+1) a
def Es {r:Type}:∀{k:Nat} {ps:List fQ} {a:fW ps} {b:hx ps r},iw k (eZ ps a b)=l9 k ps a/\iT k (eZ ps a b)=ma k ps a/\gx k (eZ ps a b)=iE k ps/\(eZ ps a b).length=ps.length
 |k,[],a,b=>⟨rfl,rfl,rfl,rfl⟩
 |k,i::h,a,b=>by
  have g:=λa b=>Es (r:=r) (k:=k+1) (ps:=h) (a:=a) (b:=b);cases i
  case m=>
   obtain⟨c,d,e,f⟩:=g a.2 b.2;simp only[eZ,iw,iT,gx,l9,ma,iE,im,c,d,e,f,and_self]
  case w=>
   obtain⟨c,d,e,f⟩:=g a.2 b.2;simp only[eZ,iw,iT,gx,l9,ma,iE,im,c,d,e,f,and_self]
  all_goals obtain⟨c,d,e,f⟩:=g a.2 b;simp only[eZ,iw,iT,gx,l9,ma,iE,im,c,d,e,f,and_self]
def Do (tt:List (TypeId×aj)) (e:aQ) (b:aj):ResultVar->Option (b.den×ad4)
 |.tmp k=>match gt e.g k with
  |.val _ l=>(gS b l).bind λa=>some (a,[])
  |.cv f=>bif oL b f then(hG b f.cells.toList).bind λa=>some (a,[]) else none
  |.ref id d=>match au e.h id with
   |some c=>(gI c.1 c.2 d b).bind λa=>some (a,[id])
   |none=>none
  |_=>none
 |.cell j i=>match au tt i with
  |some m=>bif ba m b then match gt e.g j with
   |.ref id d=>match au e.h id with
    |some c=>match dR c.1 d with
     |some (.optr _)=>(gI c.1 c.2 (d++[.deref]) b).bind λa=>some (a,[id])
     |_=>none
    |none=>none
   |_=>none else none
  |none=>none
def Dn (tt:List (TypeId×aj)) (c:aQ):List ResultVar->(a:List aj)->Option (kr a×ad4)
 |[],[]=>some ((),[])
 |r::f,e::a=>bif e.eD then(Do tt c e r).bind λd=>(Dn tt c f a).map λb=>((d.1,b.1),d.2++b.2) else none
 |_,_=>none
theorem Yw {E:eh} {f:aQ} {c:aj} {b:ResultVar} {d:c.den×ad4} (a:Do E.tt f c b=some d):qQ E.P f ⟨c,d.1⟩ b d.2:=by
 cases b with
 |tmp b=>
  simp only[Do] at a;simp only[qQ];split at a
  ·grind [jk,Option.bind_eq_some_iff]
  ·grind [Option.bind_eq_some_iff,oL.ok]
  ·grind [ho,Option.bind_eq_some_iff]
  grind
 |cell j h=>
  simp only[Do] at a;simp only[qQ];split at a
  case h_2=>cases a
  rename_i g i;cases e:ba g c with
  |false=>grind
  |true=>
  rw[e] at a;refine⟨(E.ok h g i).lay e,?_⟩;simp only[cond_true] at a;grind [ho,Option.bind_eq_some_iff]
theorem Ny {E:eh} {f:aQ}:∀{d:List ResultVar} {c:List aj} {b:kr c×ad4},Dn E.tt f d c=some b->sE E.P f d (hM c b.1) b.2
 |[],[],b,a=>by cases a;rfl
 |[],_::_,b,a=>by cases a
 |_::_,[],b,a=>by cases a
 |r::d,k::c,b,a=>by
  simp only[Dn] at a;cases e:k.eD with
  |false=>grind
  |true=>
  rw[e] at a;simp only[cond_true] at a;obtain⟨j,h,a⟩:=dp.1 a;obtain⟨i,g,rfl⟩:=er.1 a;exact⟨e,j.2,i.2,rfl,Yw h,Ny g⟩
def nR (
 st:aQ) {t:Type} (d:Option t):Nat->(r:List fQ)->fW r->Option (hx r t)
 |_,[],_=>d
 |k,.v _::b,a=>nR st d (k+1) b a.2
 |k,.o _::b,a=>nR st d (k+1) b a.2
 |k,.c _ _::b,a=>nR st d (k+1) b a.2
 |k,.n::b,a=>nR st d (k+1) b a.2
 |k,.s _ _::b,a=>nR st d (k+1) b a.2
 |k,.m l::b,a=>bif qW (.ref k []) (gt st.g k)&&(l.eD&&qB l) then match au st.h k with
  |some j=>match gS l j.2 with
   |some e=>(nR st d (k+1) b a.2).map λi=>(e,i)
   |none=>none
  |none=>none else none
 |k,.w f::b,a=>match gt st.g k with
  |.view u [] q p=>bif Nat.beq k u&&f.eD then match au st.h k with
   |some j=>match gS (.osl f) j.2 with
    |some e=>bif Nat.beq q a.1.2.1&&(Nat.beq p a.1.2.2&&(Nat.beq (List.length (α:=f.den) e) (List.length (α:=f.den) a.1.1)&&Nat.blt q p)) then(nR st d (k+1) b a.2).map λi=>(e,i) else none
    |none=>none
   |none=>none else none
  |_=>none
theorem rQ {y:aQ} {C:Type} {B:Option C}:∀{k:Nat} {ps:List fQ} {a:fW ps} {d:hx ps C},nR y B k ps a=some d->om y k (eZ ps a d)/\B=some (g2 ps d)
 |k,[],a,d,b=>⟨trivial,b⟩
 |k,.v _::e,a,d,b=>rQ (ps:=e) b
 |k,.o _::e,a,d,b=>rQ (ps:=e) b
 |k,.c _ _::e,a,d,b=>rQ (ps:=e) b
 |k,.n::e,a,d,b=>rQ (ps:=e) b
 |k,.s _ _::e,a,d,b=>rQ (ps:=e) b
 |k,.m E::e,a,d,b=>by
  simp only[nR] at b;cases f:(qW (.ref k []) (gt y.g k)&&(E.eD&&qB E)) with
  |false=>grind
  |true=>
  rw[f] at b;simp only[bp] at f;simp only[cond_true] at b;split at b
  case h_2=>cases b
  rename_i J t;split at b
  case h_2=>cases b
  rename_i D u;obtain⟨I,r,rfl⟩:=er.1 b;obtain⟨j,l⟩:=rQ (a:=a.2) r;refine⟨⟨⟨(qW.ok f.1).symm,?_,f.2.1,f.2.2⟩,j⟩,l⟩;rw[t];exact congrArg some (jk u)
 |k,.w z::e,a,d,b=>by
  simp only[nR] at b;split at b
  case h_2=>cases b
  rename_i H x q G;cases f:(Nat.beq k H&&z.eD) with
  |false=>grind
  |true=>
  rw[f] at b;simp only[bp] at f;obtain rfl:=eF f.1;simp only[cond_true] at b;split at b
  case h_2=>cases b
  rename_i J t;split at b
  case h_2=>cases b
  rename_i D u;cases p:(Nat.beq x a.1.2.1&&(Nat.beq q a.1.2.2&&(Nat.beq (List.length (α:=z.den) D) (List.length (α:=z.den) a.1.1)&&Nat.blt x q))) with
  |false=>grind
  |true=>
  rw[p] at b;simp only[bp] at p;obtain⟨h,i,F,A⟩:=p;have h:=eF h;have i:=eF i;have A:x<q:=e4 A;obtain⟨I,r,rfl⟩:=er.1 b;obtain⟨j,l⟩:=rQ (a:=a.2) r;refine⟨⟨⟨by rw[G,h,i],?_,⟨f.2,U⟩,eF F⟩,j⟩,l⟩;rw[t];exact congrArg some (jk u)
def Cg (tt:List (TypeId×aj)) (a:List fQ) (f:List ResultVar) (d:List aj) (e:fW a) (c:aQ):Option (hx a (kr d)):=
 match Dn tt c f d with
 |some b=>bif h9 (iE 0 a++b.2) then nR c (some b.1) 0 a e else none
 |none=>none
theorem Kg {E:eh} {i:aQ} {c:fW g} {d:hx g (kr h)} {e:Exit} (m:e=.normal\/e=.ret) (b:Cg E.tt g j h c i=some d):Ia E.P (eZ g c d) j (hM h (g2 g d)) e i:=by
 unfold Cg at b;split at b
 case h_2=>cases b
 rename_i f o;cases l:h9 (iE 0 g++f.2) with
 |false=>grind
 |true=>
 rw[l] at b;simp only[cond_true] at b;obtain⟨k,n⟩:=rQ (a:=c) b;refine⟨m,f.2,?_,?_,k⟩
 ·grind [Ny,Option.some.inj]
 simp_all [Es]
def Kh (tt:List (TypeId×aj)) (a:List fQ) (e:List ResultVar) (c:List aj) (d:fW a):Exit->aQ->Option (hx a (kr c))
 |.normal,b=>Cg tt a e c d b
 |.ret,b=>Cg tt a e c d b
 |_,_=>none
def yz (c:fM) (e:lr) (f:Code) (a:List fQ) (g:List ResultVar) (d:List aj) (b:fW a):Option (hx a (kr d)):=
 gW c e f ⟨l9 0 a b,ma 0 a b⟩ _ (Kh c.tt a g d b)
section
variable {E:eh}
theorem aE.LZ {e:Nat} {f:fW g->Option (hx g (kr h))} (n:List (Nat×ik)) (r:List (Nat×aj)) (o:ad6) (w:lr) (aw:adX) (F:∀v∈aw,H9 E.P v) (D:E.P.funcs[e]?=some l) (O:l.body.isSome=true) (I:l.results=j.toArray) (R:Nat.ble g.length l.ntmps=true) (C:∀(s:adW) (t:World),(callFunc e s).run E.P t=.ok (.enter e s) t) (J:∀K∈n,aE E K.2) (A:∀d,yz ⟨E.tt,n,r,l.ntmps,iE 0 g++mA (ie 0 g),[],o,ie 0 g,aw,[],E.glob⟩ w (l.body.getD .skip) g j h d=f d):aE E ⟨e,g,h,f⟩:=by
 refine⟨C,λd u p=>?_⟩;rw[show(ik.mk e g h f).wv d=f d from rfl,<-A d] at p;obtain⟨al,y,z,N⟩:=Es (k:=0) (ps:=g) (a:=d) (b:=u);refine qD.U7 D (c:=l.body.getD .skip) (by cases Q:l.body with|none=>grind|some L=>rfl) I (by simp_all) ?_;intro M B i H q G;rw[al,y];rw[zn] at i q;rw[z] at i;refine k7 (ic:=⟨E.tt,n,r,l.ntmps,iE 0 g++mA (ie 0 g),[],o,ie 0 g,aw,[],E.glob⟩) ⟨rfl,B.symm,i.symm,⟨J,q,F,G,rfl⟩,oe.nil H⟩ p ?_;intro x S m;cases x with
 |normal=>exact Kg (.inl rfl) m
 |ret=>exact Kg (.inr rfl) m
 |_=>cases m
def aE.of {fn:Func} {rs:List ResultVar} {j:fW g->Option (hx g (kr h))} (c:List (Nat×ik)) (i:List (Nat×aj)) (f:ad6) (e:lr) (o:E.P.funcs[a]?=some fn) (m:fn.body.isSome=true) (q:fn.results=rs.toArray) (p:Nat.ble g.length fn.ntmps=true) (n:∀(k:adW) (l:World),(callFunc a k).run E.P l=.ok (.enter a k) l) (r:∀s∈c,aE E s.2) (b:∀d,yz ⟨E.tt,c,i,fn.ntmps,iE 0 g++mA (ie 0 g),[],f,ie 0 g,[],[],E.glob⟩ e (fn.body.getD .skip) g rs h d=j d):aE E ⟨a,g,h,j⟩:=
 aE.LZ c i f e [] (λ_ b=>by cases b) o m q p n r b
def Dw:Code->Code
 |.seq a _=>a
 |c=>c
def N8:Code->Code
 |.seq _ a=>a
 |c=>c
def uj (a:Nat):Code->Option (Array Oper)
 |.region d e _=>if d=a then some e else none
 |.seq b c=>(uj a b).orElse λ_=>uj a c
 |.cond _ b c=>(uj a b).orElse λ_=>uj a c
 |.block _ b=>uj a b
 |.loop b=>uj a b
 |_=>none
def FP {b:fM} {k:Type} {c:Array Oper} {f:ad4} {d:aQ->Option k}:∀(j:ad4) (g:aQ),jP b c (j++f) g d=jP b c j g λa=>jP b c f a d
 |[],g=>rfl
 |i::e,g=>by
  have h:(λa=>jP b c (e++f) a d)=λa=>jP b c e a λa=>jP b c f a d:=funext λa=>FP e a;simp only[jb,jP];split
  ·rfl
  split
  ·rw[h]
  simp only[h,FP e]
def S8 {b:Program} {tt:List (TypeId×aj)} (i:∀c f,au tt c=some f->dP b f c) {a:sI} {S:TypeId} (g:b.underlying a.T=some (.array a.xs.length S)) (h:au tt S=some (.int a.k)):∀e∈[a],Ip b e:=λe d=>by rw[eI] at d;subst d;exact⟨S,g,i _ _ h⟩
def Oz:∀b∈([]:List (Nat×ik)),aE E b.2:=λ_ a=>by cases a
theorem ZT {c:ik} {d:List (Nat×ik)} (f:aE E c) (g:∀b∈d,aE E b.2):∀b∈(a,c)::d,aE E b.2:=λb e=>by grind
end
def uB:Value->Value->Bool
 |.int c a,.int d b=>if c=d/\a=b then true else false
 |.bool a,.bool b=>a==b
 |.string a,.string b=>a.data.toList.isEmpty&&b.data.toList.isEmpty
 |.slice none 0 0,.slice none 0 0=>true
 |.map none,.map none=>true
 |.pointer none,.pointer none=>true
 |_,_=>false
def QA {a:ByteArray} (c:a.data.toList.isEmpty=true):a=ByteArray.empty:=by
 cases a with|mk b=>cases b with|mk d=>cases d with
  |nil=>rfl
  |cons=>cases c
theorem uB.ok {b:Value} (a:uB f b=true):f=b:=by
 unfold uB at a;split at a
 ·grind
 ·rw[beq_iff_eq.1 a]
 ·simp_all [QA,bp]
 ·rfl
 ·rfl
 ·rfl
 grind
def uC:adY->adY->Bool
 |[],[]=>true
 |a::c,b::d=>uB a b&&uC c d
 |_,_=>false
theorem uC.ok:∀{c d:adY},uC c d=true->c=d
 |[],[],_=>rfl
 |[],_::_,b=>by cases b
 |_::_,[],b=>by cases b
 |a::c,e::d,b=>by simp only[uC,bp] at b;rw[uB.ok b.1,uC.ok b.2]
def iG (b:Program) (c:TypeId) (d:Nat) (f:Value):Bool:=match b.info? c with
 |some a=>Nat.beq a.size 1&&Nat.ble a.bytes d&&(match a.zero with|some e=>uB e f|none=>false)
 |none=>false
theorem iG.ok {d:Program} {e:TypeId} {f:Nat} {g:Value} (b:iG d e f g=true):∃a,d.info? e=some a/\a.size=1/\a.bytes<=f/\a.zero=some g:=by
 unfold iG at b;split at b
 case h_2=>cases b
 rename_i a j;simp only[bp] at b;obtain⟨⟨h,i⟩,c⟩:=b;split at c
 case h_2=>cases c
 rename_i l k;exact⟨a,j,eF h,e4 i,by rw[k,uB.ok c]⟩
mutual
def gO (a:Program):aj->TypeId->Bool
 |.int g,b=>iG a b 24 (.int g 0)&&(match a.underlying b with|some (.int j)=>if j=g then true else false|_=>false)
 |.bool,b=>iG a b 24 (.bool false)&&(match a.underlying b with|some .bool=>true|_=>false)
 |.str,b=>iG a b 24 (.string ByteArray.empty)&&(match a.underlying b with|some .string=>true|_=>false)
 |.bb _ c,b=>iG a b 24 (.slice none 0 0)&&(match a.underlying b with|some (.slice d)=>gO a c d|_=>false)
 |.osl c,b=>iG a b 24 (.slice none 0 0)&&(match a.underlying b with|some (.slice d)=>gO a c d|_=>false)
 |.ptr _ c,b=>iG a b 24 (.pointer none)&&(match a.underlying b with|some (.pointer d)=>gO a c d|_=>false)
 |.optr c,b=>iG a b 24 (.pointer none)&&(match a.underlying b with|some (.pointer d)=>gO a c d|_=>false)
 |.mp c,b=>iG a b 24 (.map none)&&(match a.underlying b with|some (.map e d)=>(match a.underlying e with|some (.int .i64)=>gO a c d|_=>false)|_=>false)
 |.dN _ c,b=>iG a b 24 (.map none)&&(match a.underlying b with|some (.map e d)=>(match a.underlying e with|some (.int .i64)=>gO a c d|_=>false)|_=>false)
 |.st c,b=>Nat.blt 0 c.size&&match a.info? b with
  |some f=>Nat.beq f.size c.size&&Nat.ble f.bytes (24*c.size)&&(match f.zero with
   |some (.agg h)=>Nat.beq h.size c.size&&(match a.underlying b with|some (.struct i)=>ru a c i.toList 0 h.toList|_=>false)
   |_=>false)
  |none=>false
 |_,_=>false
def ru (c:Program):aj->List Field->Nat->adY->Bool
 |.pr a f,d::h,e,b=>Nat.beq d.offset e&&gO c a d.type&&Nat.blt 0 a.size&&(match c.info? d.type with|some g=>(match g.zero with|some i=>uC (b.take a.size) i.cells.toList|none=>false)|none=>false)&&ru c f h (e+a.size) (b.drop a.size)
 |.nil,[],_,b=>b.isEmpty
 |_,_,_,_=>false
end
mutual
theorem gO.ok {n:Program}:∀{o:aj} {i:TypeId},gO n o i=true->dP n o i
 |.int w,i,a=>by
  simp only[gO,bp] at a;obtain⟨c,b⟩:=a;obtain⟨e,ax,f,g,h⟩:=iG.ok c;split at b
  ·rename_i x d;split at b
   ·rename_i p;subst p;exact⟨e,ax,f,g,h,d⟩
   grind
  grind
 |.bool,i,a=>by
  simp only[gO,bp] at a;obtain⟨c,b⟩:=a;obtain⟨e,ax,f,g,h⟩:=iG.ok c;split at b
  ·rename_i d;exact⟨e,ax,f,g,h,d⟩
  grind
 |.str,i,a=>by
  simp only[gO,bp] at a;obtain⟨c,b⟩:=a;obtain⟨e,ax,f,g,h⟩:=iG.ok c;split at b
  ·rename_i d;exact⟨e,ax,f,g,h,d⟩
  grind
 |.bb _ k,i,a=>by
  simp only[gO,bp] at a;obtain⟨c,b⟩:=a;obtain⟨e,ax,f,g,h⟩:=iG.ok c;split at b
  ·rename_i j d;exact⟨e,j,ax,f,g,h,d,gO.ok b⟩
  grind
 |.osl k,i,a=>by
  simp only[gO,bp] at a;obtain⟨c,b⟩:=a;obtain⟨e,ax,f,g,h⟩:=iG.ok c;split at b
  ·rename_i j d;exact⟨e,j,ax,f,g,h,d,gO.ok b⟩
  grind
 |.ptr _ k,i,a=>by
  simp only[gO,bp] at a;obtain⟨c,b⟩:=a;obtain⟨e,ax,f,g,h⟩:=iG.ok c;split at b
  ·rename_i j d;exact⟨e,j,ax,f,g,h,d,gO.ok b⟩
  grind
 |.optr k,i,a=>by
  simp only[gO,bp] at a;obtain⟨c,b⟩:=a;obtain⟨e,ax,f,g,h⟩:=iG.ok c;split at b
  ·rename_i j d;exact⟨e,j,ax,f,g,h,d,gO.ok b⟩
  grind
 |.mp k,i,a=>by
  simp only[gO,bp] at a;obtain⟨c,b⟩:=a;obtain⟨e,ax,f,g,h⟩:=iG.ok c;split at b
  ·rename_i l j d;split at b
   ·rename_i m;exact⟨e,l,j,ax,f,g,h,d,m,gO.ok b⟩
   grind
  grind
 |.dN _ k,i,a=>by
  simp only[gO,bp] at a;obtain⟨c,b⟩:=a;obtain⟨e,ax,f,g,h⟩:=iG.ok c;split at b
  ·rename_i l j d;split at b
   ·rename_i m;exact⟨e,l,j,ax,f,g,h,d,m,gO.ok b⟩
   grind
  grind
 |.st k,i,a=>by
  simp only[gO,bp] at a;obtain⟨r,a⟩:=a;split at a
  case h_2=>cases a
  rename_i e t;simp only[bp] at a;obtain⟨⟨c,b⟩,a⟩:=a;split at a
  case h_2=>cases a
  rename_i v u;simp only[bp] at a;obtain⟨s,a⟩:=a;split at a
  case h_2=>cases a
  rename_i q d;exact⟨e4 r,e,q,v,t,eF c,e4 b,u,d,ru.ok a,eF s⟩
 |.pr _ _,_,a=>by cases a
 |.nil,_,a=>by cases a
 |.di,_,a=>by cases a
theorem ru.ok {f:Program}:∀{g:aj} {b:List Field} {d:Nat} {c:adY},ru f g b d c=true->hz f g b d c
 |.pr h i,[],d,c,a=>by cases a
 |.pr h i,r::s,d,c,a=>by
  simp only[ru,bp] at a;obtain⟨⟨⟨⟨j,k⟩,l⟩,e⟩,m⟩:=a;split at e
  case h_2=>cases e
  rename_i p n;split at e
  case h_2=>cases e
  rename_i q o;exact⟨eF j,gO.ok k,e4 l,⟨p,q,n,o,uC.ok e⟩,ru.ok m⟩
 |.nil,[],d,c,a=>by have a:c=[]:=(by grind [ru]);exact a
 |.nil,_::_,d,c,a=>by cases a
 |.int _,b,d,c,a=>by cases b<;>cases a
 |.bool,b,d,c,a=>by cases b<;>cases a
 |.str,b,d,c,a=>by cases b<;>cases a
 |.bb _ _,b,d,c,a=>by cases b<;>cases a
 |.ptr _ _,b,d,c,a=>by cases b<;>cases a
 |.osl _,b,d,c,a=>by cases b<;>cases a
 |.optr _,b,d,c,a=>by cases b<;>cases a
 |.st _,b,d,c,a=>by cases b<;>cases a
 |.di,b,d,c,a=>by cases b<;>cases a
end
theorem OL {e:Program}:∀{tt:List (TypeId×aj)},(tt.all λf=>gO e f.2 f.1)=true->∀a b,au tt a=some b->dP e b a
 |[],_,_,_,c=>by cases c
 |(k,g)::r,c,a,b,d=>by
  simp only[ss,bp] at c;rw[b1] at d;split at d
  ·grind [gO.ok]
  exact OL (by grind) a b d
end
section
def ox:(i:aj)->i.den->Prop
 |.int g,h=>(Lit.int g h).wf=true
 |.bb _ b,c=>c.length<=maxLen/\∀a∈c,ox b a
 |.ptr _ b,a=>∀d,a=some d->ox b d
 |.st b,a=>ox b a
 |.pr e f,a=>ox e a.1/\ox f a.2
 |_,_=>True
def qV:aj->Bool
 |.int _|.bool|.str|.nil=>true
 |.bb _ a|.ptr _ a|.st a=>qV a
 |.pr b c=>qV b&&qV c
 |_=>false
def ED {P:Program} {c:aj} {a:TypeId} (d:dP P c a):P.cellsOf a=c.size:=by obtain⟨f,e,b,_⟩:=d.info;unfold Program.cellsOf;rw[b.info];simp[b.size]
section
variable {A:Type} {enc:TypeId×Value->A} {P:Program} {w:World}
def EE {b:Addr} {d:adY} (g:w.cells? c b a=some d) (k:0<a):b.spot=none/\d.length=a/\b.block<w.heap.size/\dU w b.block b.off d:=by
 have n:=World.cells?_block g k;obtain⟨_,j,h⟩:=World.cells?_some g;have f:b.spot=none:=by
  have e:=h 0 k;have:(w.cell? (b.add 0)).isSome=true:=(by rw[e];simp[a9 (U:0<d.length)]);simp only[Addr.add,if_true] at this;unfold World.cell? at this;split at this
  ·cases o:b.spot with
   |none=>rfl
   |some t=>rw[o] at this;simp at this
  cases this
 refine⟨f,j,n,λl s i=>?_⟩;have m:l<a:=(by rw[<-j];exact(eT.1 i).1);have:=h l m;rw[i] at this;rw[<-this];congr 1;unfold Addr.add;obtain⟨p,q,r⟩:=b;simp only at f;subst f;split
 ·rename_i e;subst e;rfl
 rfl
def z1 (w:World):dg->Nat->Prop:=λ_ a=>a<w.heap.size
mutual
theorem DI:∀{τ:aj} {l:TypeId} {k:adY} {q:Nat} {u:DataW A×List MemPlace},qV τ=true->dP P τ l->DataW.trod enc P w 0 (λ_=>true) true q l k=some u->∃c:τ.den,aT (z1 w) w τ k c []/\ox τ c
 |.int p,l,k,q,u,_,⟨a,_,_,_,_,h⟩,d=>by obtain⟨C,rfl,_,a4⟩:=DataW.trod_int h d;exact⟨C,⟨rfl,rfl⟩,a4⟩
 |.bool,l,k,q,u,_,⟨a,_,_,_,_,h⟩,d=>by obtain⟨D,rfl,_⟩:=DataW.trod_bool h d;exact⟨D,⟨rfl,rfl⟩,trivial⟩
 |.str,l,k,q,u,_,⟨a,_,_,_,_,h⟩,d=>by obtain⟨ce,rfl,_,_⟩:=DataW.trod_string h d;exact⟨ce,⟨rfl,rfl⟩,trivial⟩
 |.bb bs b,l,k,q,u,g,⟨a,S,_,_,_,_,h,t⟩,d=>by
  rcases DataW.trod_slice h d with⟨rfl,_⟩|⟨e,z,T,N,dl,C,rfl,rfl,_,_,av,cv,c1,H,_⟩
  ·exact⟨[],⟨rfl,none,0,rfl,a2 _,λ_=>rfl,.inl rfl⟩,by simp[maxLen],ac⟩
  have G:=ED t;have R:=t.pos;have M:∀a,a<z->∃c:b.den,∃f:adY,f.length=b.size/\w.cells? 0 (e.add (a*b.size)) b.size=some f/\aT (z1 w) w b f c []/\ox b c:=by
   intro a m;have i:=H a m;have v:N[a]?=some (N[a]'(by omega)):=a9 _
   rw[v] at i;obtain⟨f,r,E⟩:=dp.1 i;rw[G] at r;obtain⟨c,n,s⟩:=DI (τ:=b) g t E;exact⟨c,f,n.len,r,n,s⟩
  have a0:∀p,p<=z->∃o:List b.den,o.length=p/\∀(a:Nat) (c:b.den),o[a]?=some c->∃f:adY,f.length=b.size/\w.cells? 0 (e.add (a*b.size)) b.size=some f/\aT (z1 w) w b f c []/\ox b c:=by
   intro p
   induction p with
   |zero=>intro _;exact⟨[],rfl,λa c d=>by simp at d⟩
   |succ p bl=>
    intro c2;obtain⟨o,i,v⟩:=bl U;obtain⟨c,f,r⟩:=M p U;refine⟨o++[c],by simp[i],λa K j=>?_⟩;rcases bg a o.length with m|m
    ·rw[nt m] at j;exact v a K j
    rw[oh m] at j;have am:a=p:=(by have:=(eT.1 j).1;simp at this;omega);subst am;rw[i,Nat.sub_self] at j;simp only[j4,bS] at j;subst j;exact⟨f,r⟩
  obtain⟨o,i,v⟩:=a0 z (a2 _);refine⟨o,⟨rfl,some e,T,by rw[i],by rw[i];exact av,(λd=>by cases d),?_⟩,by rw[i];omega,λc n=>?_⟩
  ·cases z with
   |zero=>exact .inl (D4.1 i)
   |succ z=>
    right;obtain⟨ds,co,_,Q,_⟩:=M 0 U;have ad:e.add (0*b.size)=e:=(by simp[Addr.add]);rw[ad] at Q;obtain⟨y,_,I,_⟩:=EE Q R;refine⟨e.block,e.off,by obtain⟨D,bB,ci⟩:=e;simp only at y;subst y;rfl,I,λa c n=>?_⟩;obtain⟨f,W,X,Y,_⟩:=v a c n;obtain⟨_,_,_,B⟩:=EE X R;refine⟨f,W,?_,Y⟩;have al:(e.add (a*b.size)).block=e.block:=(by unfold Addr.add;split<;>rfl);have Z:(e.add (a*b.size)).off=e.off+a*b.size:=by
     unfold Addr.add;split
     ·rename_i ab;rw[ab];rfl
     rfl
    rw[al,Z] at B;exact B
  obtain⟨a,m,rfl⟩:=fC.1 n;obtain⟨_,_,_,_,s⟩:=v a _ (a9 m);exact s
 |.ptr bs b,l,k,q,u,g,⟨a,S,_,_,_,_,h,t⟩,d=>by
  rcases DataW.trod_pointer h d with⟨rfl,_⟩|⟨e,V,c,C,rfl,rfl,_,r,E⟩
  ·exact⟨none,⟨rfl,rfl⟩,λc d=>by cases d⟩
  rw[ED t] at r;obtain⟨K,j,s⟩:=DI (τ:=b) g t E;obtain⟨y,_,I,B⟩:=EE r t.pos;refine⟨some K,⟨rfl,e.block,e.off,V,by obtain⟨D,bB,ci⟩:=e;simp only at y;subst y;rfl,I,j.len,B,j⟩,λc d=>by cases d;exact s⟩
 |.st b,l,k,q,u,g,⟨_,a,L,d0,m,a3,_,_,h,x,_⟩,d=>by
  obtain⟨o,C,rfl,_,ap,bd,H⟩:=DataW.trod_struct h d;have G:P.cellsOf l=b.size:=(by unfold Program.cellsOf;rw[m];simp[a3]);obtain⟨c,n,s⟩:=OJ (τ:=b) (fs:=L.toList) (cs:=k) g x (by rw[jg,<-G];exact ap) (λJ O x=>by
   have x:L[J]?=some O:=(by simpa using x);have:=H J O x;have an:J<o.length:=(by rw[bd];exact(nm.1 x).1);rw[a9 an] at this;exact⟨_,_,this⟩)
  rw[lv] at n;exact⟨c,n,s⟩
 |.osl _,_,_,_,_,g,_,_=>by cases g
 |.optr _,_,_,_,_,g,_,_=>by cases g
 |.pr _ _,_,_,_,_,_,F,_=>F.elim
 |.nil,_,_,_,_,_,F,_=>F.elim
 |.di,_,_,_,_,g,_,_=>by cases g
theorem OJ:∀{τ:aj} {fs:List Field} {c:Nat} {g cs:adY},qV τ=true->hz P τ fs c g->cs.length=c+τ.size->(∀(f:Nat) b,fs[f]?=some b->∃(k:Nat) (l:DataW A×List MemPlace),DataW.trod enc P w 0 (λ_=>true) true k b.type ((cs.drop b.offset).take (P.cellsOf b.type))=some l)->∃m:τ.den,aT (z1 w) w τ (cs.drop c) m []/\ox τ m
 |.pr z B,b::D,c,g,cs,d,q,e,j=>by simp only[qV,bp] at d;obtain⟨o,h,C,_,p⟩:=q;obtain⟨k,l,i⟩:=j 0 b rfl;rw[o,ED h] at i;obtain⟨x,s,t⟩:=DI d.1 h i;obtain⟨y,u,v⟩:=OJ (cs:=cs) d.2 p (by rw[e];simp only[aj.size];omega) (λf n r=>j (f+1) n r);exact⟨(x,y),⟨[],[],rfl,s,by rw[pt];exact u⟩,t,v⟩
 |.nil,[],c,g,cs,_,_,e,_=>by refine⟨(),⟨rfl,?_⟩,trivial⟩;rw[List.drop_eq_nil_iff];simp only[aj.size] at e;omega
 |.pr _ _,[],_,_,_,_,a,_,_=>a.elim
 |.nil,_::_,_,_,_,_,a,_,_=>a.elim
 |.int _,fs,_,_,_,_,a,_,_=>by cases fs<;>exact a.elim
 |.bool,fs,_,_,_,_,a,_,_=>by cases fs<;>exact a.elim
 |.str,fs,_,_,_,_,a,_,_=>by cases fs<;>exact a.elim
 |.bb _ _,fs,_,_,_,_,a,_,_=>by cases fs<;>exact a.elim
 |.ptr _ _,fs,_,_,_,_,a,_,_=>by cases fs<;>exact a.elim
 |.osl _,fs,_,_,_,_,a,_,_=>by cases fs<;>exact a.elim
 |.optr _,fs,_,_,_,_,a,_,_=>by cases fs<;>exact a.elim
 |.st _,fs,_,_,_,_,a,_,_=>by cases fs<;>exact a.elim
 |.di,fs,_,_,_,_,a,_,_=>by cases fs<;>exact a.elim
end
theorem Xn {g:aj} {h:TypeId} (l:qV g=true) (d:dP P g h) (c:Value.okWide P w .any a h f):f=bO g f.cells.toList:=by
 cases g with
 |int r=>
  obtain⟨e,_,_,_,_,b⟩:=d;obtain⟨i,rfl⟩:=Go.WideShapes.okWide_int b c;rfl
 |bool=>
  obtain⟨e,_,_,_,_,b⟩:=d;obtain⟨i,rfl⟩:=Go.WideShapes.okWide_bool b c;rfl
 |str=>
  obtain⟨e,_,_,_,_,b⟩:=d;obtain⟨i,rfl⟩:=Go.WideShapes.okWide_string b c;rfl
 |bb m j=>
  obtain⟨e,k,_,_,_,_,b,_⟩:=d;obtain⟨n,s,o,rfl⟩:=Go.WideShapes.okWide_slice b c;rfl
 |ptr m j=>
  obtain⟨e,k,_,_,_,_,b,_⟩:=d;simp only[Value.okWide,b,Cell.okWide] at c;cases f<;>first|rfl|simp_all [Cell.ok]
 |st j=>
  obtain⟨_,e,q,t,_,_,_,_,b,_,_⟩:=d;simp only[Value.okWide,b] at c;obtain⟨p,rfl,_⟩:=c;rfl
 |_=>first|(cases l;done)|exact d.elim
def u3 (P:Program):List fQ->adX->Bool
 |[],[]=>true
 |.v a::c,b::d=>qV a&&gO P a b&&u3 P c d
 |_,_=>false
def oy:(d:List fQ)->fW d->Prop
 |[],_=>True
 |.v e::b,a=>ox e a.1/\oy b a.2
 |.m _::b,a=>oy b a.2
 |.o _::b,a=>oy b a.2
 |.c _ _::b,a=>oy b a.2
 |.n::b,a=>oy b a.2
 |.w _::b,a=>oy b a.2
 |.s _ _::b,a=>oy b a.2
def I1 {P:Program}:∀{ps:List fQ} {b:adX} {k:Nat},u3 P ps b=true->ie k ps=none
 |[],_,_,_=>rfl
 |.v g::d,e::f,k,a=>by simp only[u3,bp] at a;exact I1 (ps:=d) (k:=k+1) a.2
 |.v _::_,[],_,a=>by cases a
 |.m _::_,b,_,a=>by cases b<;>cases a
 |.o _::_,b,_,a=>by cases b<;>cases a
 |.c _ _::_,b,_,a=>by cases b<;>cases a
 |.n::_,b,_,a=>by cases b<;>cases a
 |.w _::_,b,_,a=>by cases b<;>cases a
 |.s _ _::_,b,_,a=>by cases b<;>cases a
def zf {b:Type}:List b->adT
 |[]=>[]
 |_::a=>[]::zf a
def Dm {b:Type}:∀a:List b,(zf a).flatten=[]
 |[]=>rfl
 |_::a=>by simp only[zf,j3,Dm a,hC]
def I3:∀{f:List fQ} {l:adX} {base:Nat} {b:adY} {i:List (DataW A)} {r:List MemPlace},u3 P f l=true->DataW.TrodAll enc P w 0 (λ_=>true) true l b i r->(∀(j:Nat) k g,l[j]?=some k->b[j]?=some g->Value.okWide P w .any base k g)->∃h:fW f,oy f h/\∀{x:Type} (d:hx f x),kZ (wF (λd=>d<w.heap.size) (λ_=>False) w) (eZ f h d) b (zf b)
 |[],[],base,b,i,r,_,q,_=>by cases b<;>cases i<;>first|exact⟨(),trivial,λ_=>trivial⟩|exact q.elim
 |.v U::Q,y::x,base,b,i,r,e,q,u=>by
  simp only[u3,bp] at e;obtain⟨⟨s,z⟩,B⟩:=e;obtain⟨g,T,M,N,R,S,rfl,rfl,rfl,p,C⟩:=Go.ChangeShapes.trodAll_cons q;obtain⟨O,p⟩:=p;have t:=gO.ok z;obtain⟨L,I,F⟩:=DI s t p;obtain⟨h,D,E⟩:=I3 B C (λj k K G H=>u (j+1) k K (by simpa using G) (by simpa using H));refine⟨(L,h),⟨F,D⟩,λd=>⟨⟨rfl,g.cells.toList,Xn s t (u 0 y g rfl rfl),?_⟩,E d⟩⟩;exact I.mono (λJ d e=>⟨by cases J with
   |bK=>exact e
   |dt=>exact .inl e,bT.refl _ _⟩) ac
 |[],_::_,_,_,_,_,a,_,_=>by cases a
 |.v _::_,[],_,_,_,_,a,_,_=>by cases a
 |.m _::_,_,_,_,_,_,a,_,_=>by cases a
 |.o _::_,_,_,_,_,_,a,_,_=>by cases a
 |.c _ _::_,_,_,_,_,_,a,_,_=>by cases a
 |.n::_,_,_,_,_,_,a,_,_=>by cases a
 |.w _::_,_,_,_,_,_,a,_,_=>by cases a
def OI {P:Program} (k:laidOutB P=true) {i j:World} {o:Nat->Bool}:∀{f:adX} {e:adY} {d:List (DataW A)} {c:List MemPlace},(∀h∈f,P.readableRec h=true/\h<P.types.size)->DataW.TrodAll enc P i 0 (λ_=>true) true f e d c->(∀a∈c,i.sameAt j a)->(∀a∈c,o a.block=true)->DataW.TrodAll enc P j 0 o true f e d c
 |[],e,d,c,_,g,_,_=>by cases e<;>cases d<;>first|exact g|exact g.elim
 |T::f,e,d,c,l,g,m,n=>by obtain⟨y,z,w,x,s,t,rfl,rfl,rfl,p,q⟩:=Go.ChangeShapes.trodAll_cons g;obtain⟨u,v⟩:=l T ac;exact⟨s,t,Go.WideElems.Trod_stays k u v p (λa b=>m a (by simp[b])) (λa b=>n a (by simp[b])),OI k (λh r=>l h (by simp[r])) q (λa b=>m a (by simp[b])) (λa b=>n a (by simp[b])),rfl⟩
def TR {E:eh} {F:ik} {n:ChangeSpec} {T:TypeId} (a3:aE E F) (c2:laidOutB E.P=true) (d2:(l.params.toList.all λd=>E.P.readableRec d&&Nat.blt d E.P.types.size)=true) (X:u3 E.P F.ps l.params.toList=true) (_hrs:F.rs=[.bool]) (O:l.resultTypes=#[T]) (v:E.P.underlying T=some .bool) (Z:n.vars=[]) (ed:∀c:List (DataW A),c.length=l.params.toList.length->n.fn A c=⟨[.lit (.bool true)],c,[]⟩) (d8:∀u,oy F.ps u->∃b,F.wv u=some b/\hM F.rs (g2 F.ps b)=[⟨.bool,true⟩]) {M av bB an:Bool} {q:adW} {c C:List (DataW A)} {h:List MemPlace} (ek:∀(s:Nat) d p,l.params[s]?=some d->q[s]?=some p->Value.okWide E.P i .any a d p) (Q:DataW.Whole enc E.P l.params.toList n.vars M i q.toList c C h) (a4:j2 E (λb=>b<i.heap.size) i):Calls E.P F.f q i λN e=>∃p,N=.returned p/\n.post enc E.P l M av bB an i q p e:=by
 have R:=Q;obtain⟨y,eq,D,G,W,ci,dl⟩:=Q;rw[Z] at G;have co:C=[]/\eq=[]:=by cases C with
  |nil=>exact⟨rfl,G⟩
  |cons=>exact G.elim
 obtain⟨rfl,rfl⟩:=co;rw[kB] at W;subst W;obtain⟨u,d1,bs⟩:=I3 (w:=i) (base:=a) X D (λs d p K L=>ek s d p (by simpa using K) (by simpa using L));obtain⟨b,bl,d4⟩:=d8 u d1;have c1:∀{t:adX} {B:adY} {c:List (DataW A)} {y:List MemPlace},DataW.TrodAll enc E.P i 0 (λ_=>true) true t B c y->c.length=t.length:=by
  intro t
  induction t with
  |nil=>intro B c y j;cases B<;>cases c<;>first|rfl|exact j.elim
  |cons T t el=>
   intro B c y j;obtain⟨p,f5,fs,ft,f3,f4,rfl,rfl,rfl,f2,a0⟩:=Go.ChangeShapes.trodAll_cons j;simp[el a0]
 have H:n.fn A (c++[])=⟨[.lit (.bool true)],c,[]⟩:=(by rw[kB];exact ed c (c1 D));have J:=R.lt;have U:=a3.2 u b bl i (λb=>b<i.heap.size) (λ_=>False) q.toList (zf q.toList) (λb j=>j.elim id (λj=>j.elim)) (bs b) (by rw[Dm];exact List.nodup_nil) (by rw[Dm];simp) (by rw[zn,I1 X];trivial);rw[Array.toArray_toList] at U;refine(U a4).mono ?_;rintro N e ⟨ex,f0,x,z,rfl,k⟩;refine⟨_,rfl,?_⟩;have d6:o7 z=.bool true:=by
  have:=k.res;rw[d4] at this;cases z with
  |nil=>cases x<;>exact this.elim
  |cons p z=>
   cases x with
   |nil=>exact this.elim
   |cons f1 x=>
    obtain⟨⟨fp,L,_,rfl⟩,d5⟩:=this;cases z with
    |nil=>exact L
    |cons=>cases x<;>exact d5.elim
 have I:∀b,b<i.heap.size->e.heap[b]?=i.heap[b]?:=λb v=>k.heap b v (by rw[Dm];simp);have d7:∀g∈h,i.sameAt e g:=λg r=>by
  have:=I g.block (J g r);cases g with
  |cell b m=>show e.cell? _=i.cell? _;unfold World.cell?;rw[show e.heap[b]?=i.heap[b]? from this]
  |map b=>exact this
 have ce:∀b m,MemPlace.cell b m∈h->e.frozen? ⟨b,m,none⟩=i.frozen? ⟨b,m,none⟩:=λb m r=>(by unfold World.frozen?;rw[show e.heap[b]?=i.heap[b]? from I b (J _ r)]);rw[d6];have d3:∀d∈l.params.toList,E.P.readableRec d=true/\d<E.P.types.size:=λd K=>(by have:=fd.1 d2 d K;simp only[bp] at this;exact⟨this.1,e4 this.2⟩);have S:∀o:Nat->Bool,(∀g∈h,o g.block=true)->DataW.TrodAll enc E.P e 0 o true l.params.toList q.toList (n.fn A (c++[])).args h:=λo d9=>(by rw[H];exact OI c2 d3 D d7 d9);have Y:∀(b:Nat) (o:Nat->Bool) (V:Bool),DataW.TrodAll enc E.P e b o V l.resultTypes.toList ((Value.bool true).resultList l.resultTypes.size) (n.fn A (c++[])).results []:=λb o V=>(by rw[H,O];exact Go.ChangeShapes.trodAll_mk1 ⟨1,by unfold DataW.trod;rw[v];rfl⟩);have ab:∀o:Nat->Bool,DataW.TrodVars enc E.P e o n.vars (n.fn A (c++[])).vars []:=λo=>(by rw[H,Z];rfl);have ds:∀(s:Nat) (d:TypeId) (am:Value),l.resultTypes[s]?=some d->((Value.bool true).resultList l.resultTypes.size)[s]?=some am->Value.okWide E.P e .any 0 d am:=
  Go.RowKit.ok_one O rfl (Go.RowKit.okWide_bool_mk v true)
 have d0:∀g∈h,(λb=>decide (b<i.heap.size)) g.block=true:=λg r=>(by simpa using J g r);have cv:i.keptBut e (λ_=>False):=by
  refine⟨k.os,k.output,λad cs=>?_⟩;rw[I ad cs];cases i.heap[ad]? with
  |none=>rfl
  |some em=>cases em with
   |cells ap d fT=>exact⟨rfl,rfl,rfl,λ_ _=>rfl⟩
   |map fz ap=>exact .inr ⟨rfl,rfl⟩
   |_=>rfl
 refine⟨c,[],h,[],h,[],R,Y _ _ _,S _ d0,ab _,World.keptBut_mono (λ_ j=>j.elim) cv,λ_=>?_⟩;refine⟨ds,_,_,([]++h)++[],⟨[]++h,[],Go.ChangeShapes.trodAll_append (S _ (λ_ _=>rfl)) (Y _ _ _),ab _,rfl,?_,?_⟩,?_⟩
 ·intro b m k;have k:MemPlace.cell b m∈h:=(by simpa using k);rw[ce b m k];exact ci b m k
 ·intro bd;simpa using dl bd
 intro g r _;simpa using r
end
end
section
inductive DY where
 |a
 |b (f:ad4)
 |c (f m:ad4)
def Fa (a:Nat):Nat:=a/32+a %32*500000
abbrev Yb (a:Nat):Nat×nz:=(a,.s (.ref a []))
abbrev HT (a:Nat):Nat×nz:=(a,.v (.int .i64))
inductive nk where
 |l
 |o (a:nk)
 |t (j:D1) (a b:nk)
 |n (b:nk)
 |p (zu:l4) (m:D2) (a:nk)
 |k (l:ad4) (a:nk)
 |z (F:ad4) (a:nk)
 |d (L:List DY)
def Dt (b:Array Oper) (a:Nat) (f c:ad4):kA:=match b[a]? with
 |some d=>⟨a,dl d,d.looksAt b,o4 b a,f,c⟩
 |none=>⟨a,[],[],[],f,c⟩
def B5 (d:Array Oper):Nat->List DY->List kA
 |_,[]=>[]
 |i,.a::e=>Dt d i [] []::B5 d (i+1) e
 |i,.b f::e=>Dt d i (f.map Fa) []::B5 d (i+1) e
 |i,.c f g::e=>Dt d i (f.map Fa) (g.map Fa)::B5 d (i+1) e
def rq:Code->lr
 |.seq a b=>.two .none (rq a) (rq b)
 |.cond _ a b=>.two .none (rq a) (rq b)
 |.block _ a=>.one (rq a)
 |.region _ c true=>.draw ((List.range c.size).map λd=>Dt c d [] [])
 |_=>.leaf
def nk.ex:nk->Code->lr
 |.l,a=>rq a
 |.o b,.block _ a=>.one (b.ex a)
 |.t J b c,.seq a e=>.two J (b.ex a) (c.ex e)
 |.t J b c,.cond _ a e=>.two J (b.ex a) (c.ex e)
 |.n c,.seq a e=>.two .none (rq a) (c.ex e)
 |.n c,.cond _ a e=>.two .none (rq a) (c.ex e)
 |.p j h b,.loop a=>.loop j h (b.ex a)
 |.k f b,a=>.keep f (b.ex a)
 |.z g b,a=>.qa g (b.ex a)
 |.d f,.region _ i _=>.draw (B5 i 0 f)
 |_,_=>.leaf
def w2 (E:eh):Type:={a:List (Nat×ik)//∀b∈a,aE E b.2}
def aK {E:eh}:w2 E:=⟨[],Oz⟩
def ak {E:eh} {a:ik} (c:aE E a) (b:w2 E):w2 E:=⟨(a.f,a)::b.1,ZT c b.2⟩
section
variable {E:eh} {f:Nat} {fn:Func} {ps:List fQ} {C:List aj} {D:fW ps->Option (hx ps (kr C))}
def aE.q (d:w2 E) (l:nk) (k:E.P.funcs[f]?=some fn) (j:∀(h:adW) (i:World),(callFunc f h).run E.P i=.ok (.enter f h) i) (g:List (Nat×aj):=[]) (e:ad6:=[]) (a:(fn.body.isSome&&Nat.ble ps.length fn.ntmps)=true:=by kernel_rfl) (c:∀b,yz ⟨E.tt,d.1,g,fn.ntmps,iE 0 ps++mA (ie 0 ps),[],e,ie 0 ps,[],[],E.glob⟩ (l.ex (fn.body.getD .skip)) (fn.body.getD .skip) ps fn.results.toList C b=D b:=by intro b;kernel_rfl):aE E ⟨f,ps,C,D⟩:=
 have a:=bp _ _▸a
 aE.LZ d.1 g e _ [] (λ_ c=>by cases c) k a.1 Array.toArray_toList.symm a.2 j d.2 c
end
end
def jT (a:Nat):Nat×Nat:=bif Nat.blt (a %32) 28 then(a %32,a/32) else bif Nat.beq (a %32) 31 then(a/32 %16777216,a/536870912) else((a %32-28)*256+a/32 %256+28,a/8192)
def mu {c:Type} (b:Nat->c×Nat):Nat->Nat->List c×Nat
 |0,a=>([],a)
 |k+1,a=>match a %2 with
  |0=>([],a/2)
  |_=>match b (a/2) with
   |(x,t)=>match mu b k t with
    |(l,u)=>(x::l,u)
def Hc (a:List aj) (b:Nat):aj×Nat:=match jT b with
 |(i,t)=>(a.getD i .nil,t)
def mv {a b:Type} (c:Nat->a×Nat) (d:Nat->b×Nat) (e:Nat):(a×b)×Nat:=match c e with
 |(x,t)=>match d t with
  |(y,u)=>((x,y),u)
def Yj (b:List aj) (a:Nat):(Nat×nz)×Nat:=match a %4 with
 |0=>match jT (a/4) with
  |(k,t)=>(Yb k,t)
 |1=>match jT (a/4) with
  |(k,t)=>(HT k,t)
 |2=>match mv jT (Hc b) (a/4) with
  |((k,x),t)=>((k,.v x),t)
 |_=>match mv jT jT (a/4) with
  |((k,x),t)=>((k,.s (.ref x [])),t)
def zd (a:List aj) (b:Nat):l4×Nat:=match mv (mu (Yj a) 99) (mu (mv jT (Hc a)) 99) b with
 |((x,y),t)=>(⟨x,y⟩,t)
def Yi (b:List aj) (a:Nat):D1×Nat:=match a %3 with
 |0=>(.none,a/3)
 |1=>match mv (mu jT 99) (zd b) (a/3) with
  |((x,y),t)=>(.x x y,t)
 |_=>match mv (mu jT 99) (zd b) (a/3) with
  |((x,y),t)=>(.uz x y,t)
def Yk (b:List aj) (a:Nat):D2×Nat:=match a %3 with
 |0=>(.r,a/3)
 |1=>match mv jT (zd b) (a/3) with
  |((x,y),t)=>(.x x y,t)
 |_=>match mv jT (zd b) (a/3) with
  |((x,y),t)=>(.uz x y,t)
def Ha (a:Nat):Nat×Nat:=match a %2 with
 |0=>match jT (a/2) with
  |(k,t)=>(k*32,t)
 |_=>match jT (a/64) with
  |(k,t)=>(k*32+a/2 %32,t)
def Yh (d:Nat):DY×Nat:=match d %3 with
 |0=>(.a,d/3)
 |1=>match mu Ha 99 (d/3) with
  |(x,t)=>(.b x,t)
 |_=>match mv (mu Ha 99) (mu Ha 99) (d/3) with
  |((x,y),t)=>(.c x y,t)
def r3 (e:List aj):Nat->Nat->nk×Nat
 |0,c=>(.l,c)
 |k+1,c=>match c %8 with
  |0=>(.l,c/8)
  |1=>match r3 e k (c/8) with
   |(a,t)=>(.o a,t)
  |2=>match Yi e (c/8) with
   |(f,t)=>match r3 e k t with
    |(a,t)=>match r3 e k t with
     |(b,t)=>(.t f a b,t)
  |3=>match r3 e k (c/8) with
   |(a,t)=>(.n a,t)
  |4=>match mv (zd e) (Yk e) (c/8) with
   |((x,y),t)=>match r3 e k t with
    |(a,t)=>(.p x y a,t)
  |5=>match mu jT 99 (c/8) with
   |(x,t)=>match r3 e k t with
    |(a,t)=>(.k x a,t)
  |6=>match mu jT 99 (c/8) with
   |(x,t)=>match r3 e k t with
    |(a,t)=>(.z x a,t)
  |_=>match mu Yh 999 (c/8) with
   |(x,t)=>(.d x,t)
def Hb (b:List aj) (c:Nat):nk×List (Nat×aj)×ad6:=match r3 b 999 c with
 |(a,t)=>match mv (mu (mv jT (Hc b)) 99) (mu (mv jT jT) 99) t with
  |((x,y),_)=>(a,x,y)
def QW {b:Program} (h:b.funcs[a]?=some l) (i:(l.name=="runtime.NumGoroutine")=false) (g:l.body.isSome=true) (c:adW) (d:World):(callFunc a c).run b d=.ok (.enter a c) d:=by have e:l.name≠"runtime.NumGoroutine":=(by simpa using i);obtain⟨j,f⟩:=D6.1 g;simp[callFunc,h,e,f,Sem.run]
section
def ae {α:Type} (c:Option α) (b:α->Prop):Prop:=∃a,c=some a/\b a
section
variable {α A σ ρ τ:Type}
theorem ae.ag {b:α} {c:α->Prop}:ae (some b) c↔c b:=⟨λ⟨_,a,d⟩=>by cases a;exact d,λa=>⟨b,rfl,a⟩⟩
def ae.qn {a:α->Prop}:ae none a↔False:=⟨(λ⟨_,b,_⟩=>by cases b),False.elim⟩
def ae.bZ {x:Option α} {b:α->Option A} {a:A->Prop}:ae (x.bind b) a↔ae x (λc=>ae (b c) a):=by
 cases x with
 |none=>simp only[Option.bind_none,ae.qn]
 |some c=>simp only[aG,ae.ag]
def ae.yN {a:Option α} {c:α->A} {b:A->Prop}:ae (a.map c) b↔ae a (λd=>b (c d)):=by
 cases a with
 |none=>simp only[Option.map_none,ae.qn]
 |some d=>simp only[ga,ae.ag]
def ae.bY {b:Bool} {c d:Option α} {a:α->Prop}:ae (bif b then c else d) a↔(b=true->ae c a)/\(b=false->ae d a):=by cases b<;>simp
def ae.mono {c:Option α} {P b:α->Prop} (d:ae c P) (g:∀a,P a->b a):ae c b:=let⟨a,e,f⟩:=d;⟨a,e,g a f⟩
def ae.eq_iff {c:Option α} {b:α}:ae c (· =b)↔c=some b:=⟨λ⟨e,a,d⟩=>by rw[a,d],λa=>⟨b,a,rfl⟩⟩
def ae.Ky {b:List α} {d:α->Prop}:ae (aC b e) d↔∃(f:e.toNat<b.length),0<=e/\d b[e.toNat]:=by
 unfold aC;by_cases a:0<=e
 ·rw[ai a];by_cases c:e.toNat<b.length
  ·rw[a9 c,ae.ag];simp[c,a]
  rw[hR U,ae.qn];simp[c]
 rw[ah a,ae.qn];simp[a]
def ae.hV {b:List α} {c:α->Prop}:ae (aC b (a:Int)) c↔∃(d:a<b.length),c b[a]:=by rw[ae.Ky];simp
def ae.oU:ae (bh a e) m↔(0<=e/\e.toNat<a)/\m e.toNat:=by
 unfold bh;by_cases b:0<=e/\e.toNat<a
 ·rw[ai b,ae.ag];simp[b]
 rw[ah b,ae.qn];simp[b]
def ae.rG {c:Unit->Prop}:ae (bN a) c↔a<=fm/\c ():=by
 unfold bN;by_cases b:a<=fm
 ·rw[ai b,ae.ag];simp[b]
 rw[ah b,ae.qn];simp[b]
def ae.v5 {a:Int}:ae (dV e a) m↔(0<=e/\e<=a/\a<=(fm:Int))/\m e.toNat:=by
 unfold dV;by_cases b:0<=e/\e<=a/\a<=(fm:Int)
 ·rw[ai b,ae.ag];simp[b]
 rw[ah b,ae.qn];simp[b]
def aZ (d:List α) (c:Nat) (b:α->Option A):Option A:=match d[c]? with
 |some a=>b a
 |none=>none
def ae.oE {c:List α} {e:α->Option A} {d:A->Prop}:ae (aZ c a e) d↔∃(b:a<c.length),ae (e c[a]) d:=by
 unfold aZ;by_cases b:a<c.length
 ·rw[a9 b];simp[b]
 rw[hR U];simp[b,ae.qn]
def ae.loop {j:σ->Option (σ⊕ρ)} {i:ρ->Prop} (g:σ->Prop) (h:σ->Nat) {a:σ} (n:g a) (m:∀a,g a->ae (j a) (λ|.inl f=>g f/\h f<h a|.inr b=>i b)):ae (loop j a) i:=by
 have s:∀e a,h a<=e->g a->∃b,h8 j (e+1) a=some b/\i b:=by
  intro e
  induction e with
  |zero=>
   intro a q k;obtain⟨l,d,c⟩:=m a k;cases l with
   |inl f=>have:=c.2;omega
   |inr b=>exact⟨b,by simp only[h8,d],c⟩
  |succ e r=>
   intro a q k;obtain⟨l,d,c⟩:=m a k;cases l with
   |inl f=>
    obtain⟨b,o,p⟩:=r f (by have:=c.2;omega) c.1;exact⟨b,by rw[h8,d];exact o,p⟩
   |inr b=>exact⟨b,by simp only[h8,d],c⟩
 obtain⟨b,d,c⟩:=s (h a) a (a2 _) n;exact⟨b,vX.2 ⟨_,d⟩,c⟩
def ae.for {j:Int×τ->Option ((Int×τ)⊕ρ)} {i:ρ->Prop} (b:Nat) (d:Nat->τ->Prop) {i0:Nat} {p:τ} (t:e=(i0:Int)) (q:d i0 p) (n:i0<=b) (v:∀a c,i0<=a->a<b->d a c->ae (j ((a:Int),c)) (λ|.inl k=>k.1=((a+1:Nat):Int)/\d (a+1) k.2|.inr g=>i g)) (s:∀c,d b c->ae (j ((b:Int),c)) (λ|.inl _=>False|.inr g=>i g)):ae (h2.loop j (e,p)) i:=by
 subst t;refine ae.loop (λh=>∃a:Nat,i0<=a/\a<=b/\h.1=(a:Int)/\d a h.2) (λh=>b-h.1.toNat) ⟨i0,a2 _,n,rfl,q⟩ ?_;rintro⟨w,c⟩ ⟨a,u,n,rfl,o⟩;rcases bg a b with m|m
 ·refine(v a c u m o).mono ?_;rintro(⟨x,y⟩|g) f
  ·obtain⟨l,r⟩:=f;simp only at l;subst l;exact⟨⟨a+1,U,U,rfl,r⟩,by show b-Int.toNat _<b-Int.toNat _;simp;omega⟩
  exact f
 obtain rfl:a=b:=U;refine(s c o).mono ?_;rintro(k|g) f
 ·exact f.elim
 exact f
end
def aav (a:Int):IntKind.i64.wrap a=if(9223372036854775808:Int)<=a %18446744073709551616 then a %18446744073709551616-18446744073709551616 else a %18446744073709551616:=by
 unfold IntKind.wrap;by_cases b:(9223372036854775808:Int)<=a %18446744073709551616
 ·rw[ai b];exact ai (show(true&&decide (a %18446744073709551616>=(9223372036854775808:Int)))=true by simp[b])
 rw[ah b];exact ah (show¬(true&&decide (a %18446744073709551616>=(9223372036854775808:Int)))=true by simp[b])
def wrap64 {x:Int} (a:-9223372036854775808<=x) (b:x<=9223372036854775807):IntKind.i64.wrap x=x:=by rw[aav];split<;>omega
def fJ (b:a<9223372036854775807):IntKind.i64.wrap ((a:Int)+1)=((a+1:Nat):Int):=by rw[wrap64 U U];simp
end
section
abbrev ay {α:Type} (a:List α):Int:=((a.length:Nat):Int)
abbrev ar (a:Int):Int:=IntKind.i64.wrap a
abbrev aJ (a:Int):Int:=IntKind.u64.wrap a
abbrev b3 (a:Int):Int:=IntKind.u32.wrap a
abbrev aY (a:Int):Int:=IntKind.i64.wrap (a+1)
def rd {α A:Type} (a:List α) (c:Int) (e:α->Option A):Option A:=(bh a.length c).bind λd=>(aZ a d λb=>some b).bind e
def wr {α A:Type} (a:List α) (c:Int) (e:α) (d:List α->Option A):Option A:=(bh a.length c).bind λb=>(aZ a b λ_=>some (a.set b e)).bind d
section
variable {α A:Type}
def jU {b:List α} (d:a<b.length) (c:α->Option A):rd b (a:Int) c=c b[a]:=by unfold rd bh;rw[ai ⟨U,by simpa using d⟩];show(aZ b (a:Int).toNat _).bind c=_;unfold aZ;rw[db,a9 d];rfl
def Yl {b:List α} {c:α} (f:0<=e) (d:b[e.toNat]?=some c) (a:α->Option A):rd b e a=a c:=by obtain⟨g,h⟩:=eT.1 d;obtain⟨j,rfl⟩:=eH f;have i:j<b.length:=g;exact(jU i a).trans (congrArg a h)
def jZ {b:List α} (d:a<b.length) (e:α) (c:List α->Option A):wr b (a:Int) e c=c (b.set a e):=by unfold wr bh;rw[ai ⟨U,by simpa using d⟩];show(aZ b (a:Int).toNat _).bind c=_;unfold aZ;rw[db,a9 d];rfl
end
end
def AY:cS->ad2:=λ(e,h,_)=>(loop (σ:=c4) (ρ:=cV) (λ(f,c,_)=>bif decide (c<((e.length:Nat):Int)) then(Option.bind (α:=c6⊕cA) ((aC e c).bind λd=>Option.bind (α:=Unit⊕(c6⊕cA)) (cond (decide (d<=f)==false) (cond (decide (d>=h)) (some (.inr (.inr (.inr (.inr (false,())))))) (some (.inl ()))) (some (.inr (.inr (.inr (.inr (false,()))))))) λa=>match a with
 |.inl _=>(some (.inl (d,())))
 |.inr b=>some b) λa=>match a with
 |.inl (g,_)=>(some (.inl (g,IntKind.i64.wrap (c+(1:Int)),())))
 |.inr b=>some b) else some (.inr (.inl ()))) ((-1:Int),(0:Int),())).bind λa=>match a with
 |.inl _=>(some (true,()))
 |.inr b=>some b
def q3:c6->ad2:=λ(a,_)=>some ((a !=a),())
def sY:c4->ad2:=λ(a,b,_)=>(q3 (a,())).bind λ(c,_)=>(cond (c==true) ((q3 (b,())).bind λ(aR,_)=>cond ((!aR)==false) (some (decide (a<b),())) (some (true,()))) (some (decide (a<b),())))
def Bq:c6->ad2:=λ(a,_)=>some ((a !=a),())
def s7:cS->Option cZ:=λ(b,e,_)=>(loop (σ:=c4) (ρ:=c6) (λ(c,d,_)=>cond (decide (c<d)) ((dk IntKind.u64 (IntKind.u64.wrap (IntKind.i64.wrap (c+d))) (1:Int)).bind λf=>(aC b (IntKind.i64.wrap f)).bind λk=>(sY (k,e,())).bind λ(i,_)=>cond i (some (.inl (IntKind.i64.wrap (IntKind.i64.wrap f+(1:Int)),d,()))) (some (.inl (c,IntKind.i64.wrap f,())))) (some (.inr (c,())))) ((0:Int),((b.length:Nat):Int),())).bind λ(a,_)=>(cond (decide (a<((b.length:Nat):Int))==true) ((aC b a).bind λl=>cond ((l==e)==false) ((aC b a).bind λj=>(Bq (j,())).bind λ(g,_)=>cond (g==true) ((Bq (e,())).bind λ(h,_)=>some (a,h,())) (some (a,false,()))) (some (a,true,()))) (some (a,false,())))
def vo:(cO×Int×Int×Unit)->ad2:=λ(a,c,d,_)=>(aC a.1 c).bind λe=>(s7 (e,d,())).bind λ(_,b,_)=>some (b,())
def vl:cH->ad3:=λ(a,_)=>(bif decide ((((a.1).length:Nat):Int)>(200:Int)) then some ((6:Int),()) else((loop (σ:=c6) (ρ:=cX) (λ(d,_)=>bif decide (d<(((a.1).length:Nat):Int)) then(Option.bind (α:=Unit⊕cG) ((aC a.1 d).bind λj=>(AY (j,(((a.1).length:Nat):Int),())).bind λ(aR,_)=>cond ((!aR)==false) ((vo (a,d,d,())).bind λ(i,_)=>cond i (some (.inr (.inr (.inr ((1:Int),()))))) (some (.inl ()))) (some (.inr (.inr (.inr ((1:Int),())))))) λb=>match b with
 |.inl _=>(some (.inl (IntKind.i64.wrap (d+(1:Int)),())))
 |.inr c=>some c) else some (.inr (.inl ()))) ((0:Int),())).bind λb=>match b with
 |.inl _=>((loop (σ:=c6) (ρ:=cX) (λ(e,_)=>bif decide (e<(((a.1).length:Nat):Int)) then((aC a.1 e).bind λg=>(loop (σ:=c6) (ρ:=cx) (λ(f,_)=>cond (decide (f<((g.length:Nat):Int))) ((aC g f).bind λk=>(vo (a,k,e,())).bind λ(h,_)=>cond (!h) (some (.inr (.inr (.inr (.inr ((1:Int),())))))) (some (.inl (IntKind.i64.wrap (f+(1:Int)),())))) (some (.inr (.inl ())))) ((0:Int),())).bind λb=>match b with
 |.inl _=>(some (.inl (IntKind.i64.wrap (e+(1:Int)),())))
 |.inr c=>some c) else some (.inr (.inl ()))) ((0:Int),())).bind λb=>match b with
 |.inl _=>(some ((0:Int),()))
 |.inr c=>some c)
 |.inr c=>some c))
def AS:c6->Option cC:=λ(b,_)=>(dV b b).bind λh=>(dV b b).bind λi=>(loop (σ:=cy) (ρ:=cC) (λ(d,a,_)=>cond (decide (d<b)) ((bh (a.1).length d).bind λf=>((aZ a.1 f λ_=>some ((a.1).set f (-1:Int))).map λm=>(m,a.2)).bind λc=>(bh (c.2.1).length d).bind λe=>(((aZ c.2.1 e λ_=>some ((c.2.1).set e (-1:Int))).map λj=>(j,c.2.2)).map λk=>(c.1,k)).bind λl=>some (.inl (IntKind.i64.wrap (d+(1:Int)),l,()))) (some (.inr (a,())))) ((0:Int),(List.replicate h (0:Int),(List.replicate i (0:Int),())),())).bind λ(g,_)=>some (g,())
def AR:(cK×Int×Int×Unit)->Option cC:=λ(j,m,e,_)=>(loop (σ:=cy) (ρ:=cC) (λ(b,d,_)=>Option.bind (α:=cC⊕(cy⊕cC)) (cond ((b !=(-1:Int))==true) (cond (decide (b<e)) (some (.inl (d,()))) (some (.inr (.inr (d,()))))) (some (.inr (.inr (d,()))))) λo=>match o with
 |.inl (a,_)=>((bh (a.2.1).length b).bind λn=>(aZ a.2.1 n λi=>some i).bind λh=>(bh (a.2.1).length b).bind λf=>(((aZ a.2.1 f λ_=>some ((a.2.1).set f e)).map λq=>(q,a.2.2)).map λr=>(a.1,r)).bind λc=>Option.bind (α:=cC) (cond (h==(-1:Int)) ((bh (c.1).length b).bind λg=>((aZ c.1 g λ_=>some ((c.1).set g e)).map λs=>(s,c.2)).bind λt=>some (t,())) (some (c,()))) λ(k,_)=>some (.inl (h,k,())))
 |.inr p=>some p) (m,j,())).bind λ(l,_)=>some (l,())
def AQ:cH->Option cS:=λ(a,_)=>(vl (a,())).bind λ(f,_)=>(cond (f !=(0:Int)) (some ([],f,())) ((AS ((((a.1).length:Nat):Int),())).bind λ(k,_)=>(loop (σ:=cy) (ρ:=cC) (λ(b,d,_)=>cond (decide (b<(((a.1).length:Nat):Int))) ((aC a.1 b).bind λg=>(loop (σ:=cy) (ρ:=cC) (λ(c,e,_)=>cond (decide (c<((g.length:Nat):Int))) ((aC g c).bind λl=>(AR (e,l,b,())).bind λ(j,_)=>some (.inl (IntKind.i64.wrap (c+(1:Int)),j,()))) (some (.inr (e,())))) ((0:Int),d,())).bind λ(h,_)=>some (.inl (IntKind.i64.wrap (b+(1:Int)),h,()))) (some (.inr (d,())))) ((0:Int),k,())).bind λ(i,_)=>some (i.1,(0:Int),())))
def B0:(cO×ad5×Int×Unit)->Option c0:=λ(q,x,b,_)=>(dV (IntKind.i64.wrap (b+(1:Int))) (IntKind.i64.wrap (b+(1:Int)))).bind λh=>(bh (List.replicate h false).length b).bind λj=>(aZ (List.replicate h false) j λ_=>some ((List.replicate h false).set j true)).bind λE=>(aC q.1 b).bind λn=>(loop (σ:=cQ) (ρ:=cY) (λ(i,l,_)=>bif decide (i<((n.length:Nat):Int)) then(aC n i).bind λA=>(loop (σ:=cQ) (ρ:=cY) (λ(c,a,_)=>Option.bind (α:=cY⊕cr) (cond (decide (c>=(0:Int))==true) (cond (decide (c<b)==true) ((bh a.length c).bind λr=>(aZ a r λo=>some o).bind λB=>cond (!B) (some (.inl (a,()))) (some (.inr (.inr (a,()))))) (some (.inr (.inr (a,()))))) (some (.inr (.inr (a,()))))) λy=>match y with
 |.inl (g,_)=>((bh g.length c).bind λk=>(aZ g k λ_=>some (g.set k true)).bind λF=>(aC x c).bind λC=>some (.inl (C,F,())))
 |.inr z=>some z) (A,l,())).bind λ(t,_)=>some (.inl (IntKind.i64.wrap (i+(1:Int)),t,())) else some (.inr (l,()))) ((0:Int),E,())).bind λ(m,_)=>(loop (σ:=(Int×ad1×ad5×Unit)) (ρ:=c0) (λ(d,e,f,_)=>cond (decide (d<((m.length:Nat):Int))) (Option.bind (α:=(ad1×ad5×Unit)) ((bh e.length d).bind λs=>(aZ e s λp=>some p).bind λD=>cond D ((bN (f.length+([d]).length)).bind λ_=>some (e,(f++[d]),())) (some (e,f,()))) λ(u,v,_)=>some (.inl (IntKind.i64.wrap (d+(1:Int)),u,v,()))) (some (.inr (f,())))) ((0:Int),m,[],())).bind λ(w,_)=>some (w,())
def BZ:cH->Option cL:=λ(g,_)=>(AQ (g,())).bind λ(d,j,_)=>(bif j !=(0:Int) then some ([],j,()) else(dV ((d.length:Nat):Int) ((d.length:Nat):Int)).bind λq=>(loop (σ:=(Int×adU×Unit)) (ρ:=cO) (λ(b,i,_)=>bif decide (b<((d.length:Nat):Int)) then(B0 (g,d,b,())).bind λ(k,_)=>(loop (σ:=(Int×adU×ad5×Unit)) (ρ:=cO) (λ(e,a,f,_)=>bif decide (e<((k.length:Nat):Int)) then(bh f.length e).bind λp=>(aZ f p λm=>some m).bind λl=>(bh a.length l).bind λh=>(aZ a h λn=>some n).bind λt=>(bN (t.length+([b]).length)).bind λ_=>(bh a.length l).bind λc=>bif Nat.beq h c&&true then(aZ a c λo=>some o).bind λu=>(aZ a c λ_=>some (a.set c (u++[b]))).bind λv=>
 some (.inl (IntKind.i64.wrap (e+(1:Int)),v,f,())) else none else some (.inr (a,()))) ((0:Int),i,k,())).bind λ(r,_)=>some (.inl (IntKind.i64.wrap (b+(1:Int)),r,())) else some (.inr (i,()))) ((0:Int),List.replicate q [],())).bind λ(s,_)=>some (s,(0:Int),()))
def tb:(ad5×ad5×Unit)->ad2:=λ(b,c,_)=>(bif ((b.length:Nat):Int)!=((c.length:Nat):Int) then some (false,()) else((loop (σ:=c6) (ρ:=cV) (λ(a,_)=>cond (decide (a<((b.length:Nat):Int))) ((aC b a).bind λf=>(aC c a).bind λg=>cond (f !=g) (some (.inr (.inr (false,())))) (some (.inl (IntKind.i64.wrap (a+(1:Int)),())))) (some (.inr (.inl ())))) ((0:Int),())).bind λd=>match d with
 |.inl _=>(some (true,()))
 |.inr e=>some e))
def xQ:c0->ad2:=λ(b,_)=>(loop (σ:=c6) (ρ:=cV) (λ(a,_)=>cond (decide (a<((b.length:Nat):Int))) ((aC b a).bind λe=>(aC b (IntKind.i64.wrap (a-(1:Int)))).bind λf=>cond (decide (e<=f)) (some (.inr (.inr (false,())))) (some (.inl (IntKind.i64.wrap (a+(1:Int)),())))) (some (.inr (.inl ())))) ((1:Int),())).bind λc=>match c with
 |.inl _=>(some (true,()))
 |.inr d=>some d
def x7:cM->Option cH:=λ(f,_)=>(loop (σ:=cb) (ρ:=cc) (λ(b,l,i,_)=>bif decide (b<((f.length:Nat):Int)) then(loop (σ:=(Int×cO×cO×ad5×Unit)) (ρ:=b8) (λ(a,e,c,d,_)=>bif decide (a<((f.length:Nat):Int)) then Option.bind (α:=b8) (Option.bind (α:=(Bool×cO×cO×ad5×Unit)) (cond ((b !=a)==true) ((aC f b).bind λt=>(aC t a).bind λu=>cond (u==false) ((aC f a).bind λv=>(aC v b).bind λw=>some (w,e,c,d,())) (some (true,e,c,d,()))) (some (false,e,c,d,()))) λ(q,m,j,h,_)=>
 cond q ((bN (h.length+([a]).length)).bind λ_=>some (m,j,(h++[a]),())) (some (m,j,h,()))) λ(r,n,p,_)=>some (.inl (IntKind.i64.wrap (a+(1:Int)),r,n,p,())) else some (.inr (e,c,d,()))) ((0:Int),l,i,[],())).bind λ(s,g,k,_)=>(bN ((g.1).length+([k]).length)).bind λ_=>some (.inl (IntKind.i64.wrap (b+(1:Int)),s,((g.1++[k]),g.2),())) else some (.inr (l,i,()))) ((0:Int),([],()),([],()),())).bind λ(_,o,_)=>some (o,())
def q9:cS->ad2:=λ(b,e,_)=>(loop (σ:=c6) (ρ:=cV) (λ(a,_)=>cond (decide (a<((b.length:Nat):Int))) ((aC b a).bind λf=>cond (f==e) (some (.inr (.inr (true,())))) (some (.inl (IntKind.i64.wrap (a+(1:Int)),())))) (some (.inr (.inl ())))) ((0:Int),())).bind λc=>match c with
 |.inl _=>(some (false,()))
 |.inr d=>some d
def tg:cH->ad3:=λ(a,_)=>(bif decide ((((a.1).length:Nat):Int)>(200:Int)) then some ((6:Int),()) else((loop (σ:=c6) (ρ:=cX) (λ(b,_)=>bif decide (b<(((a.1).length:Nat):Int)) then(aC a.1 b).bind λh=>(xQ (h,())).bind λ(aR,_)=>bif !aR then some (.inr (.inr ((1:Int),()))) else((loop (σ:=c6) (ρ:=cx) (λ(f,_)=>(aC a.1 b).bind λi=>bif decide (f<((i.length:Nat):Int)) then(Option.bind (α:=Unit⊕cf) ((aC a.1 b).bind λj=>(aC j f).bind λe=>cond (decide (e<(0:Int))==false) (cond (decide (e>=(((a.1).length:Nat):Int))==false) (cond ((e==b)==false) ((aC a.1 e).bind λk=>(q9 (k,b,())).bind λ(g,_)=>cond (!g) (some (.inr (.inr (.inr (.inr (.inr ((1:Int),()))))))) (some (.inl ()))) (some (.inr (.inr (.inr (.inr (.inr ((1:Int),())))))))) (some (.inr (.inr (.inr (.inr (.inr ((1:Int),())))))))) (some (.inr (.inr (.inr (.inr (.inr ((1:Int),())))))))) λc=>match c with
 |.inl _=>(some (.inl (IntKind.i64.wrap (f+(1:Int)),())))
 |.inr d=>some d) else some (.inr (.inl ()))) ((0:Int),())).bind λc=>match c with
 |.inl _=>(some (.inl (IntKind.i64.wrap (b+(1:Int)),())))
 |.inr d=>some d) else some (.inr (.inl ()))) ((0:Int),())).bind λc=>match c with
 |.inl _=>(some ((0:Int),()))
 |.inr d=>some d))
def BN:cS->ad2:=λ(b,e,_)=>(loop (σ:=c6) (ρ:=cV) (λ(a,_)=>bif decide (a<((b.length:Nat):Int)) then(Option.bind (α:=Unit⊕cF) ((aC b a).bind λf=>cond (decide (f<(0:Int))==false) ((aC b a).bind λg=>cond (decide (g>=e)) (some (.inr (.inr (.inr (false,()))))) (some (.inl ()))) (some (.inr (.inr (.inr (false,())))))) λc=>match c with
 |.inl _=>(some (.inl (IntKind.i64.wrap (a+(1:Int)),())))
 |.inr d=>some d) else some (.inr (.inl ()))) ((0:Int),())).bind λc=>match c with
 |.inl _=>(some (true,()))
 |.inr d=>some d
def BO:c0->ad2:=λ(b,_)=>(loop (σ:=c6) (ρ:=cV) (λ(a,_)=>cond (decide (a<((b.length:Nat):Int))) (((some (0)).bind λc=>(fV a).bind λd=>(gd c d b.length).map λ_=>(c,d)).bind λe=>(aC b a).bind λi=>(q9 (((b.take e.2).drop e.1),i,())).bind λ(h,_)=>cond h (some (.inr (.inr (true,())))) (some (.inl (IntKind.i64.wrap (a+(1:Int)),())))) (some (.inr (.inl ())))) ((0:Int),())).bind λf=>match f with
 |.inl _=>(some (false,()))
 |.inr g=>some g
def x8:cH->Option cM:=λ(a,_)=>(loop (σ:=cI) (ρ:=cM) (λ(c,g,_)=>cond (decide (c<(((a.1).length:Nat):Int))) ((dV (((a.1).length:Nat):Int) (((a.1).length:Nat):Int)).bind λj=>(loop (σ:=(Int×adS×ad1×Unit)) (ρ:=(adS×ad1×Unit)) (λ(d,h,b,_)=>(aC a.1 c).bind λm=>cond (decide (d<((m.length:Nat):Int))) ((aC a.1 c).bind λn=>(aC n d).bind λl=>(bh b.length l).bind λe=>(aZ b e λ_=>some (b.set e true)).bind λo=>some (.inl (IntKind.i64.wrap (d+(1:Int)),h,o,()))) (some (.inr (h,b,())))) ((0:Int),g,List.replicate j false,())).bind λ(f,i,_)=>(bN (f.length+([i]).length)).bind λ_=>some (.inl (IntKind.i64.wrap (c+(1:Int)),(f++[i]),()))) (some (.inr (g,())))) ((0:Int),[],())).bind λ(k,_)=>
 some (k,())
def x9:c6->Option cM:=λ(a,_)=>(loop (σ:=cI) (ρ:=cM) (λ(c,b,_)=>cond (decide (c<a)) ((dV a a).bind λd=>(bN (b.length+([List.replicate d false]).length)).bind λ_=>some (.inl (IntKind.i64.wrap (c+(1:Int)),(b++[List.replicate d false]),()))) (some (.inr (b,())))) ((0:Int),[],())).bind λ(e,_)=>some (e,())
def BP:cu->Option cD:=λ(e,a,_)=>(tg (e,())).bind λ(j,_)=>(bif j !=(0:Int) then some (([],()),j,()) else(BN (a,(((e.1).length:Nat):Int),())).bind λ(aR,_)=>bif !aR then some (([],()),(3:Int),()) else(BO (a,())).bind λ(r,_)=>bif r then some (([],()),(90:Int),()) else(x8 (e,())).bind λ(s,_)=>(x9 (((a.length:Nat):Int),())).bind λ(t,_)=>(loop (σ:=cg) (ρ:=cj) (λ(c,l,i,_)=>bif decide (c<((a.length:Nat):Int)) then(loop (σ:=cg) (ρ:=cj) (λ(d,k,b,_)=>bif decide (d<((a.length:Nat):Int)) then(bh b.length c).bind λf=>(aC a c).bind λv=>
 (aC s v).bind λw=>(aC a d).bind λx=>(aC w x).bind λy=>((aZ b f λm=>some m).bind λn=>bh n.length d).bind λh=>(aZ b f λg=>(aZ g h λ_=>some (g.set h y)).map λz=>b.set f z).bind λA=>some (.inl (IntKind.i64.wrap (d+(1:Int)),k,A,())) else some (.inr (k,b,()))) ((0:Int),l,i,())).bind λ(u,o,_)=>some (.inl (IntKind.i64.wrap (c+(1:Int)),u,o,())) else some (.inr (l,i,()))) ((0:Int),([],()),t,())).bind λ(_,p,_)=>(x7 (p,())).bind λ(q,_)=>some (q,(0:Int),()))
def BQ:cH->Option cm:=λ(a,_)=>(x8 (a,())).bind λ(c,_)=>(dV (((a.1).length:Nat):Int) (((a.1).length:Nat):Int)).bind λb=>some ((c,(List.replicate b false,())),())
def yb:(Option cB×Int×Unit)->Option c0:=λ(b,h,_)=>(loop (σ:=cT) (ρ:=c0) (λ(a,d,_)=>b.bind λj=>cond (decide (a<(((j.1).length:Nat):Int))) (Option.bind (α:=c0) (Option.bind (α:=(Bool×ad5×Unit)) (b.bind λk=>(aC k.1 h).bind λl=>(aC l a).bind λm=>cond (m==true) (b.bind λn=>(aC n.2.1 a).bind λi=>some ((!i),d,())) (some (false,d,()))) λ(g,c,_)=>cond g ((bN (c.length+([a]).length)).bind λ_=>some ((c++[a]),())) (some (c,()))) λ(e,_)=>some (.inl (IntKind.i64.wrap (a+(1:Int)),e,()))) (some (.inr (d,())))) ((0:Int),[],())).bind λ(f,_)=>some (f,())
def ya:(cB×Int×Unit)->Option cm:=λ(h,l,_)=>(yb (some h,l,())).bind λ(e,_)=>(loop (σ:=ck) (ρ:=cm) (λ(c,i,_)=>bif decide (c<((e.length:Nat):Int)) then(loop (σ:=ck) (ρ:=cm) (λ(d,a,_)=>bif decide (d<((e.length:Nat):Int)) then Option.bind (α:=cm) (cond (c !=d) ((aC e c).bind λr=>(bh (a.1).length r).bind λf=>(aC e d).bind λq=>((aZ a.1 f λm=>some m).bind λn=>bh n.length q).bind λj=>((aZ a.1 f λg=>(aZ g j λ_=>some (g.set j true)).map λs=>(a.1).set f s).map λt=>(t,a.2)).bind λu=>some (u,())) (some (a,()))) λ(o,_)=>
 some (.inl (IntKind.i64.wrap (d+(1:Int)),o,())) else some (.inr (a,()))) ((0:Int),i,())).bind λ(p,_)=>some (.inl (IntKind.i64.wrap (c+(1:Int)),p,())) else some (.inr (i,()))) ((0:Int),h,())).bind λ(b,_)=>(bh (b.2.1).length l).bind λk=>(((aZ b.2.1 k λ_=>some ((b.2.1).set k true)).map λv=>(v,b.2.2)).map λw=>(b.1,w)).bind λx=>some (x,())
def vG:cH->Option cL:=λ(b,_)=>(tg (b,())).bind λ(e,_)=>(cond (e !=(0:Int)) (some ([],e,())) ((BQ (b,())).bind λ(i,_)=>(loop (σ:=(Int×cB×adU×Unit)) (ρ:=cO) (λ(a,f,c,_)=>cond (decide (a<(((b.1).length:Nat):Int))) ((yb (some f,a,())).bind λ(d,_)=>(bN (([a]).length+d.length)).bind λ_=>(bN (c.length+([([a]++d)]).length)).bind λ_=>(ya (f,a,())).bind λ(g,_)=>some (.inl (IntKind.i64.wrap (a+(1:Int)),g,(c++[([a]++d)]),()))) (some (.inr (c,())))) ((0:Int),i,[],())).bind λ(h,_)=>some (h,(0:Int),())))
def Ba:c4->Option c4:=λ(b,a,_)=>(dk IntKind.u64 b (32:Int)).bind λc=>(dk IntKind.u64 a (32:Int)).bind λd=>(dk IntKind.u64 (IntKind.u64.wrap (dr IntKind.u64 b (4294967295:Int)*dr IntKind.u64 a (4294967295:Int))) (32:Int)).bind λe=>(dk IntKind.u64 (IntKind.u64.wrap (IntKind.u64.wrap (c*dr IntKind.u64 a (4294967295:Int))+e)) (32:Int)).bind λf=>(dk IntKind.u64 (IntKind.u64.wrap (dr IntKind.u64 (IntKind.u64.wrap (IntKind.u64.wrap (c*dr IntKind.u64 a (4294967295:Int))+e)) (4294967295:Int)+IntKind.u64.wrap (dr IntKind.u64 b (4294967295:Int)*d))) (32:Int)).bind λg=>some (IntKind.u64.wrap (IntKind.u64.wrap (IntKind.u64.wrap (c*d)+f)+g),IntKind.u64.wrap (b*a),())
def ET:c4->Option c4:=λ(b,c,_)=>(Ba (b,c,())).bind λ(a,aR,_)=>some (a,aR,())
def Bo:cS->Option c0:=λ(f,g,_)=>Option.bind (α:=Unit) (cond (decide (g<(0:Int))) none (some ())) λ_=>(ET (IntKind.u64.wrap ((f.length:Nat):Int),IntKind.u64.wrap g,())).bind λ(m,aR,_)=>Option.bind (α:=Unit) (Option.bind (α:=c5) (cond (decide (m>(0:Int))==false) (some (decide (aR>(9223372036854775807:Int)),())) (some (true,()))) λ(n,_)=>cond n none (some ())) λ_=>(dV (IntKind.i64.wrap aR) (IntKind.i64.wrap aR)).bind λe=>(loop (σ:=cT) (ρ:=c0) (λ(b,a,_)=>bif decide (b<((a.length:Nat):Int)) then((fV b).bind λk=>(some (a.length)).bind λh=>(gd k h a.length).bind λ_=>(uc a.length).map λ_=>(k,h)).bind λc=>((some (0)).bind λi=>(fV b).bind λj=>(gd i j a.length).bind λ_=>(uc a.length).map λ_=>(i,j)).bind λd=>some (.inl (IntKind.i64.wrap (b+((min ((a.take d.2).drop d.1).length (c.2-c.1):Nat):Int)),h6 a ((a.take d.2).drop d.1) c.1 c.2,())) else
 some (.inr (a,()))) (((min f.length ((List.replicate e (0:Int)).length-0):Nat):Int),h6 (List.replicate e (0:Int)) f 0 (List.replicate e (0:Int)).length,())).bind λ(l,_)=>some (l,())
def BW:ch->Option cR:=λ(g,h,_)=>(loop (σ:=cT) (ρ:=cw) (λ(e,b,_)=>bif decide (e<((g.length:Nat):Int)) then(Option.bind (α:=c0⊕b9) ((aC g e).bind λa=>Option.bind (α:=(ad5×cE×Unit)⊕(c0⊕b9)) (Option.bind (α:=(Bool×ad5×cE×Unit)) (cond ((a.1 !=((b.length:Nat):Int))==false) (cond (decide (a.2.1<=a.1)==false) (some (decide (a.2.1>h),b,a,())) (some (true,b,a,()))) (some (true,b,a,()))) λ(o,m,l,_)=>cond o (some (.inr (.inr (.inr (.inr ([],false,())))))) (some (.inl (m,l,())))) λc=>match c with
 |.inl (i,f,_)=>((Bo ([e],IntKind.i64.wrap (f.2.1-f.1),())).bind λ(k,_)=>(bN (i.length+k.length)).bind λ_=>some (.inl ((i++k),())))
 |.inr d=>some d) λc=>match c with
 |.inl (n,_)=>(some (.inl (IntKind.i64.wrap (e+(1:Int)),n,())))
 |.inr d=>some d) else some (.inr (.inl (b,())))) ((0:Int),[],())).bind λc=>match c with
 |.inl (j,_)=>(some (j,(((j.length:Nat):Int)==h),()))
 |.inr d=>some d
def BY:(cE×Int×Unit)->ad2:=λ(a,g,_)=>(bif decide ((((a.2.2.1).length:Nat):Int)<IntKind.i64.wrap (a.2.1-a.1)) then some (false,()) else((loop (σ:=c6) (ρ:=cV) (λ(b,_)=>bif decide (b<(((a.2.2.1).length:Nat):Int)) then(Option.bind (α:=Unit⊕cF) ((aC a.2.2.1 b).bind λc=>Option.bind (α:=c5) (cond (decide (b<IntKind.i64.wrap (a.2.1-a.1))==true) (some ((c !=IntKind.i64.wrap (a.1+b)),())) (some (false,()))) λ(f,_)=>cond f (cond f (some (.inr (.inr (.inr (false,()))))) (some (.inl ()))) (cond (decide (b>=IntKind.i64.wrap (a.2.1-a.1))==true) (cond (decide (c<a.2.1)==false) (cond (decide (c>=g)==false) ((aC a.2.2.1 (IntKind.i64.wrap (b-(1:Int)))).bind λh=>cond (decide (c<=h)) (some (.inr (.inr (.inr (false,()))))) (some (.inl ()))) (some (.inr (.inr (.inr (false,())))))) (some (.inr (.inr (.inr (false,())))))) (some (.inl ())))) λd=>match d with
 |.inl _=>(some (.inl (IntKind.i64.wrap (b+(1:Int)),())))
 |.inr e=>some e) else some (.inr (.inl ()))) ((0:Int),())).bind λd=>match d with
 |.inl _=>(some (true,()))
 |.inr e=>some e))
def BX:(List cE×ad5×cE×Unit)->ad2:=λ(f,g,a,_)=>((fV (IntKind.i64.wrap (a.2.1-a.1))).bind λd=>(some ((a.2.2.1).length)).bind λe=>(gd d e (a.2.2.1).length).map λ_=>(d,e)).bind λb=>(bif (((((a.2.2.1).take b.2).drop b.1).length:Nat):Int)==(0:Int) then some ((a.2.2.2.1==(-1:Int)),()) else(aC (((a.2.2.1).take b.2).drop b.1) (0:Int)).bind λm=>(aC g m).bind λn=>bif a.2.2.2.1 !=n then some (false,()) else((loop (σ:=c6) (ρ:=cV) (λ(c,_)=>cond (decide (c<(((((a.2.2.1).take b.2).drop b.1).length:Nat):Int))) ((aC (((a.2.2.1).take b.2).drop b.1) c).bind λk=>(aC f a.2.2.2.1).bind λl=>(s7 (l.2.2.1,k,())).bind λ(_,j,_)=>cond (!j) (some (.inr (.inr (false,())))) (some (.inl (IntKind.i64.wrap (c+(1:Int)),())))) (some (.inr (.inl ())))) ((0:Int),())).bind λh=>match h with
 |.inl _=>(some (true,()))
 |.inr i=>some i))
def E5:(cE×adZ×Unit)->ad2:=λ(a,b,_)=>b.bind λc=>(BY (a,c,())).bind λ(aR,_)=>some ((!aR),())
def EX:b7->ad3:=λ(b,c,_)=>(loop (σ:=c6) (ρ:=cX) (λ(a,_)=>cond (decide (a<((b.length:Nat):Int))) ((aC b a).bind λg=>(E5 (g,c.1,())).bind λ(f,_)=>cond f (some (.inr (.inr (a,())))) (some (.inl (IntKind.i64.wrap (a+(1:Int)),())))) (some (.inr (.inl ())))) ((0:Int),())).bind λd=>match d with
 |.inl _=>(some ((-1:Int),()))
 |.inr e=>some e
def Bk:b7->ad2:=λ(c,a,_)=>(EX (c,(a.1,()),())).bind λ(b,_)=>some (decide (b>=(0:Int)),())
def E6:(cE×Option cp×adQ×Unit)->ad2:=λ(a,b,c,_)=>b.bind λe=>c.bind λf=>(BX (e,f,a,())).bind λ(d,_)=>some ((!d),())
def EY:b4->ad3:=λ(c,b,_)=>(loop (σ:=c6) (ρ:=cX) (λ(a,_)=>cond (decide (a<((c.length:Nat):Int))) ((aC c a).bind λg=>(E6 (g,b.1,b.2.1,())).bind λ(f,_)=>cond f (some (.inr (.inr (a,())))) (some (.inl (IntKind.i64.wrap (a+(1:Int)),())))) (some (.inr (.inl ())))) ((0:Int),())).bind λd=>match d with
 |.inl _=>(some ((-1:Int),()))
 |.inr e=>some e
def Bl:b4->ad2:=λ(c,a,_)=>(EY (c,(a.1,a.2.1,()),())).bind λ(b,_)=>some (decide (b>=(0:Int)),())
def tj:b6->ad3:=λ(c,d,_)=>(vl (c,())).bind λ(i,_)=>(bif i !=(0:Int) then some (i,()) else((BW (d,(((c.1).length:Nat):Int),())).bind λ(aR,p,_)=>Option.bind (α:=c0⊕c6) (cond ((!p)==false) ((Bk (d,(some (((c.1).length:Nat):Int),()),())).bind λ(q,_)=>cond q (some (.inr ((211:Int),()))) (some (.inl (aR,())))) (some (.inr ((211:Int),())))) λa=>match a with
 |.inl (h,_)=>((Bl (d,(some d,some h,()),())).bind λ(r,_)=>bif r then some ((211:Int),()) else((loop (σ:=cT) (ρ:=cX) (λ(e,l,_)=>bif decide (e<(((c.1).length:Nat):Int)) then((aC c.1 e).bind λj=>(loop (σ:=cT) (ρ:=ca) (λ(g,f,_)=>bif decide (g<((j.length:Nat):Int)) then(Option.bind (α:=c0⊕(cT⊕ca)) ((aC j g).bind λk=>cond (decide (k>e)) (some (.inl (f,()))) ((aC f k).bind λs=>(aC d s).bind λt=>(s7 (t.2.2.1,e,())).bind λ(_,o,_)=>cond (!o) (some (.inr (.inr (.inr (.inr (.inr ((211:Int),()))))))) (some (.inl (f,()))))) λa=>match a with
 |.inl (m,_)=>(some (.inl (IntKind.i64.wrap (g+(1:Int)),m,())))
 |.inr b=>some b) else some (.inr (.inl (f,())))) ((0:Int),l,())).bind λa=>match a with
 |.inl (n,_)=>(some (.inl (IntKind.i64.wrap (e+(1:Int)),n,())))
 |.inr b=>some b) else some (.inr (.inl ()))) ((0:Int),h,())).bind λa=>match a with
 |.inl _=>(some ((0:Int),()))
 |.inr b=>some b))
 |.inr b=>some b))
def yc:ch->ad3:=λ(b,e,_)=>(loop (σ:=c6) (ρ:=cX) (λ(a,_)=>bif decide (a<((b.length:Nat):Int)) then(Option.bind (α:=Unit⊕cG) (Option.bind (α:=c5) ((aC b a).bind λg=>cond (decide (g.1<=e)==true) ((aC b a).bind λh=>some (decide (e<h.2.1),())) (some (false,()))) λ(f,_)=>cond f (some (.inr (.inr (.inr (a,()))))) (some (.inl ()))) λc=>match c with
 |.inl _=>(some (.inl (IntKind.i64.wrap (a+(1:Int)),())))
 |.inr d=>some d) else some (.inr (.inl ()))) ((0:Int),())).bind λc=>match c with
 |.inl _=>(some ((-1:Int),()))
 |.inr d=>some d
def th:b6->ad3:=λ(f,c,_)=>(tg (f,())).bind λ(o,_)=>(bif o !=(0:Int) then some (o,()) else((loop (σ:=c4) (ρ:=cN) (λ(k,h,_)=>bif decide (h<((c.length:Nat):Int)) then(Option.bind (α:=c6⊕cq) (Option.bind (α:=Unit⊕(c6⊕cq)) ((aC c h).bind λJ=>cond ((J.1 !=k)==false) ((aC c h).bind λK=>cond (decide (K.2.1<=k)==false) ((aC c h).bind λL=>cond (decide (L.2.1>(((f.1).length:Nat):Int))) (some (.inr (.inr (.inr (.inr ((211:Int),())))))) (some (.inl ()))) (some (.inr (.inr (.inr (.inr ((211:Int),()))))))) (some (.inr (.inr (.inr (.inr ((211:Int),()))))))) λa=>match a with
 |.inl _=>((aC c h).bind λM=>some (.inl (M.2.1,())))
 |.inr b=>some b) λa=>match a with
 |.inl (q,_)=>(some (.inl (q,IntKind.i64.wrap (h+(1:Int)),())))
 |.inr b=>some b) else some (.inr (.inl (k,())))) ((0:Int),(0:Int),())).bind λa=>match a with
 |.inl (r,_)=>(bif r !=(((f.1).length:Nat):Int) then some ((211:Int),()) else((loop (σ:=c6) (ρ:=cX) (λ(e,_)=>bif decide (e<((c.length:Nat):Int)) then(Option.bind (α:=Unit⊕cG) ((aC c e).bind λd=>(aC c e).bind λi=>(aC c e).bind λj=>Option.bind (α:=Unit⊕cx) ((xQ (d.2.2.1,())).bind λ(s,_)=>bif (!s)==false then bif decide ((((d.2.2.1).length:Nat):Int)<IntKind.i64.wrap (i.2.1-j.1))==false then(aC d.2.2.1 (0:Int)).bind λx=>(aC c e).bind λy=>bif (x !=y.1)==false then(aC d.2.2.1 (IntKind.i64.wrap (IntKind.i64.wrap (i.2.1-j.1)-(1:Int)))).bind λz=>(aC c e).bind λA=>bif (z !=IntKind.i64.wrap (A.2.1-(1:Int)))==false then(aC d.2.2.1 (IntKind.i64.wrap ((((d.2.2.1).length:Nat):Int)-(1:Int)))).bind λB=>bif decide (B>=(((f.1).length:Nat):Int)) then some (.inr (.inr (.inr (.inr ((211:Int),()))))) else
 some (.inl ()) else some (.inr (.inr (.inr (.inr ((211:Int),()))))) else some (.inr (.inr (.inr (.inr ((211:Int),()))))) else some (.inr (.inr (.inr (.inr ((211:Int),()))))) else some (.inr (.inr (.inr (.inr ((211:Int),())))))) λa=>match a with
 |.inl _=>(Option.bind (α:=c6) (cond (decide ((((d.2.2.1).length:Nat):Int)>IntKind.i64.wrap (i.2.1-j.1))) ((aC d.2.2.1 (IntKind.i64.wrap (i.2.1-j.1))).bind λC=>(yc (c,C,())).bind λ(t,_)=>some (t,())) (some ((-1:Int),()))) λ(n,_)=>(aC c e).bind λD=>bif D.2.2.2.1 !=n then some (.inr (.inr (.inr ((211:Int),())))) else((loop (σ:=c6) (ρ:=cl) (λ(l,_)=>cond (decide (l<(((d.2.2.1).length:Nat):Int))) ((aC c n).bind λE=>(aC d.2.2.1 l).bind λF=>(q9 (E.2.2.1,F,())).bind λ(u,_)=>cond (!u) (some (.inr (.inr (.inr (.inr (.inr ((211:Int),()))))))) (some (.inl (IntKind.i64.wrap (l+(1:Int)),())))) (some (.inr (.inl ())))) (IntKind.i64.wrap (i.2.1-j.1),())).bind λa=>match a with
 |.inl _=>(some (.inl ()))
 |.inr b=>some b))
 |.inr b=>some b) λa=>match a with
 |.inl _=>(some (.inl (IntKind.i64.wrap (e+(1:Int)),())))
 |.inr b=>some b) else some (.inr (.inl ()))) ((0:Int),())).bind λa=>match a with
 |.inl _=>((loop (σ:=c6) (ρ:=cX) (λ(g,_)=>bif decide (g<(((f.1).length:Nat):Int)) then((loop (σ:=c6) (ρ:=cx) (λ(m,_)=>(aC f.1 g).bind λG=>bif decide (m<((G.length:Nat):Int)) then(Option.bind (α:=Unit⊕cf) ((aC f.1 g).bind λH=>(aC H m).bind λp=>cond (decide (p>g)==true) ((yc (c,g,())).bind λ(v,_)=>(aC c v).bind λI=>(q9 (I.2.2.1,p,())).bind λ(w,_)=>cond (!w) (some (.inr (.inr (.inr (.inr (.inr ((211:Int),()))))))) (some (.inl ()))) (some (.inl ()))) λa=>match a with
 |.inl _=>(some (.inl (IntKind.i64.wrap (m+(1:Int)),())))
 |.inr b=>some b) else some (.inr (.inl ()))) ((0:Int),())).bind λa=>match a with
 |.inl _=>(some (.inl (IntKind.i64.wrap (g+(1:Int)),())))
 |.inr b=>some b) else some (.inr (.inl ()))) ((0:Int),())).bind λa=>match a with
 |.inl _=>(some ((0:Int),()))
 |.inr b=>some b)
 |.inr b=>some b))
 |.inr b=>some b))
def Bu:cS->ad2:=λ(b,c,_)=>(bif ((b.length:Nat):Int)!=c then some (false,()) else((dV c c).bind λk=>(loop (σ:=cQ) (ρ:=cV) (λ(a,g,_)=>bif decide (a<c) then(Option.bind (α:=cY⊕cn) (Option.bind (α:=cY⊕(cY⊕cn)) ((aC b a).bind λo=>cond (decide (o<(0:Int))==false) ((aC b a).bind λp=>cond (decide (p>=c)==false) ((aC b a).bind λq=>(bh g.length q).bind λj=>(aZ g j λi=>some i).bind λm=>cond m (some (.inr (.inr (.inr (.inr (false,())))))) (some (.inl (g,())))) (some (.inr (.inr (.inr (.inr (false,()))))))) (some (.inr (.inr (.inr (.inr (false,()))))))) λd=>match d with
 |.inl (f,_)=>((aC b a).bind λn=>(bh f.length n).bind λh=>(aZ f h λ_=>some (f.set h true)).bind λr=>some (.inl (r,())))
 |.inr e=>some e) λd=>match d with
 |.inl (l,_)=>(some (.inl (IntKind.i64.wrap (a+(1:Int)),l,())))
 |.inr e=>some e) else some (.inr (.inl ()))) ((0:Int),List.replicate k false,())).bind λd=>match d with
 |.inl _=>(some (true,()))
 |.inr e=>some e))
def p0:cu->Option cD:=λ(a,b,_)=>(tg (a,())).bind λ(c,_)=>(cond (c !=(0:Int)) (some (([],()),c,())) (cond (((b.length:Nat):Int)!=(((a.1).length:Nat):Int)) (some (([],()),(2:Int),())) ((Bu (b,(((a.1).length:Nat):Int),())).bind λ(aR,_)=>cond (!aR) (some (([],()),(90:Int),())) ((BP (a,b,())).bind λ(d,e,_)=>some (d,e,())))))
section
open Go
def zA (c:ad5->adQ) (a:ad5):Option Bool:=bif Nat.ble a.length 1000000 then(c a).bind λb=>bif Nat.ble b.length 1000000 then some (decide ((Lib.compact b).length<a.length)) else none else none
end
def A1:cD->ad2:=λ(b,a,_)=>(cond (decide (a>=(0:Int))==true) (some (decide (a<(((b.1).length:Nat):Int)),())) (some (false,())))
def vv:c6->ad3:=λ(a,_)=>Option.bind (α:=c4) (cond (decide (a>=(65536:Int))) ((dk IntKind.u32 a (16:Int)).bind λg=>some (g,(16:Int),())) (some (a,(0:Int),()))) λ(b,c,_)=>Option.bind (α:=c4) (cond (decide (b>=(256:Int))) ((dk IntKind.u32 b (8:Int)).bind λh=>some (h,IntKind.i64.wrap (c+(8:Int)),())) (some (b,c,()))) λ(f,e,_)=>(pg CD (IntKind.u8.wrap f)).bind λd=>some (IntKind.i64.wrap (e+IntKind.i64.wrap d),())
def JH:c6->ad3:=λ(a,_)=>Option.bind (α:=c4) (cond (decide (a>=(4294967296:Int))) ((dk IntKind.u64 a (32:Int)).bind λi=>some (i,(32:Int),())) (some (a,(0:Int),()))) λ(b,d,_)=>Option.bind (α:=c4) (cond (decide (b>=(65536:Int))) ((dk IntKind.u64 b (16:Int)).bind λj=>some (j,IntKind.i64.wrap (d+(16:Int)),())) (some (b,d,()))) λ(c,e,_)=>Option.bind (α:=c4) (cond (decide (c>=(256:Int))) ((dk IntKind.u64 c (8:Int)).bind λk=>some (k,IntKind.i64.wrap (e+(8:Int)),())) (some (c,e,()))) λ(h,g,_)=>(pg CD (IntKind.u8.wrap h)).bind λf=>some (IntKind.i64.wrap (g+IntKind.i64.wrap f),())
def ES:c6->ad3:=λ(b,_)=>(JH (b,())).bind λ(a,_)=>some (a,())
def Bp:(ad5×Int×Int×Unit)->Option c0:=λ(k,f,j,_)=>(loop (σ:=cT) (ρ:=c0) (λ(d,g,_)=>bif decide (d<j) then(loop (σ:=cT) (ρ:=c0) (λ(a,c,_)=>Option.bind (α:=c0⊕(cT⊕c0)) (cond (decide (a>f)==true) ((bh c.length a).bind λu=>(aZ c u λq=>some q).bind λy=>(bh c.length (IntKind.i64.wrap (a-(1:Int)))).bind λr=>(aZ c r λn=>some n).bind λz=>(sY (y,z,())).bind λ(x,_)=>cond x (some (.inl (c,()))) (some (.inr (.inr (c,()))))) (some (.inr (.inr (c,()))))) λv=>match v with
 |.inl (b,_)=>((bh b.length (IntKind.i64.wrap (a-(1:Int)))).bind λs=>(aZ b s λo=>some o).bind λA=>(bh b.length a).bind λt=>(aZ b t λp=>some p).bind λB=>(bh b.length a).bind λh=>(aZ b h λ_=>some (b.set h A)).bind λe=>(bh e.length (IntKind.i64.wrap (a-(1:Int)))).bind λi=>(aZ e i λ_=>some (e.set i B)).bind λC=>some (.inl (IntKind.i64.wrap (a-(1:Int)),C,())))
 |.inr w=>some w) (d,g,())).bind λ(l,_)=>some (.inl (IntKind.i64.wrap (d+(1:Int)),l,())) else some (.inr (g,()))) (IntKind.i64.wrap (f+(1:Int)),k,())).bind λ(m,_)=>some (m,())
def Br:(ad5×Int×Int×Int×Unit)->Option c0:=λ(e,c,d,g,_)=>(loop (σ:=(Int×Int×Int×Bool×Bool×ad5×Unit)) (ρ:=c0) (λ(a,b,_,_,_,f,_)=>cond (decide (IntKind.i64.wrap (b-a)<=(12:Int))) ((Bp (f,a,b,())).bind λ(h,_)=>some (.inr (h,()))) none) (c,d,g,true,true,e,())).bind some
def xM:c0->Option c0:=λ(a,_)=>(ES (IntKind.u64.wrap ((a.length:Nat):Int),())).bind λ(c,_)=>(Br (a,(0:Int),((a.length:Nat):Int),c,())).bind λ(b,_)=>some (b,())
def A0:ad5×Unit->ad2:=λa=>(zA (λc=>(xM (c,())).map λd=>d.1) a.1).map λb=>(b,())
def EQ:(Int×Option cO×Unit)->ad2:=λ(b,a,_)=>a.bind λc=>(A1 (c,b,())).bind λ(aR,_)=>some ((!aR),())
def EZ:cd->ad3:=λ(b,c,_)=>(loop (σ:=c6) (ρ:=cX) (λ(a,_)=>cond (decide (a<((b.length:Nat):Int))) ((aC b a).bind λg=>(EQ (g,c.1,())).bind λ(f,_)=>cond f (some (.inr (.inr (a,())))) (some (.inl (IntKind.i64.wrap (a+(1:Int)),())))) (some (.inr (.inl ())))) ((0:Int),())).bind λd=>match d with
 |.inl _=>(some ((-1:Int),()))
 |.inr e=>some e
def Bm:cd->ad2:=λ(c,a,_)=>(EZ (c,(a.1,()),())).bind λ(b,_)=>some (decide (b>=(0:Int)),())
def AW:cu->ad3:=λ(a,b,_)=>(vl (a,())).bind λ(c,_)=>(cond (c !=(0:Int)) (some (c,())) (cond (((b.length:Nat):Int)!=(((a.1).length:Nat):Int)) (some ((2:Int),())) ((Bm (b,(some a,()),())).bind λ(aR,_)=>cond (aR==false) ((A0 (b,())).bind λ(d,_)=>cond d (some ((90:Int),())) (some ((0:Int),()))) (some ((90:Int),())))))
def xC:c6->Option cM:=λ(a,_)=>(dV a a).bind λe=>(loop (σ:=cI) (ρ:=cM) (λ(c,b,_)=>cond (decide (c<((((List.replicate e []):adS).length:Nat):Int))) ((dV a a).bind λf=>(bh b.length c).bind λd=>(aZ b d λ_=>some (b.set d (List.replicate f false))).bind λh=>some (.inl (IntKind.i64.wrap (c+(1:Int)),h,()))) (some (.inr (b,())))) ((0:Int),List.replicate e [],())).bind λ(g,_)=>some (g,())
def xF:(adS×Int×Int×Unit)->Option cM:=λ(a,d,e,_)=>(cond (d !=e) ((bh a.length d).bind λb=>(bh a.length e).bind λc=>((aZ a b λm=>some m).bind λn=>bh n.length e).bind λi=>(aZ a b λg=>(aZ g i λ_=>some (g.set i true)).map λo=>a.set b o).bind λf=>((aZ f c λk=>some k).bind λl=>bh l.length d).bind λj=>(aZ f c λh=>(aZ h j λ_=>some (h.set j true)).map λp=>f.set c p).bind λq=>some (q,())) (some (a,())))
def AX:(adS×Int×Unit)->Option c0:=λ(f,g,_)=>(aC f g).bind λc=>(loop (σ:=cT) (ρ:=c0) (λ(a,b,_)=>cond (decide (a<((c.length:Nat):Int))) (Option.bind (α:=c0) ((aC c a).bind λh=>cond h ((bN (b.length+([a]).length)).bind λ_=>some ((b++[a]),())) (some (b,()))) λ(d,_)=>some (.inl (IntKind.i64.wrap (a+(1:Int)),d,()))) (some (.inr (b,())))) ((0:Int),[],())).bind λ(e,_)=>some (e,())
def xE:cM->Option cH:=λ(b,_)=>(dV ((b.length:Nat):Int) ((b.length:Nat):Int)).bind λg=>(loop (σ:=cb) (ρ:=cc) (λ(c,e,a,_)=>cond (decide (c<((b.length:Nat):Int))) ((AX (b,c,())).bind λ(h,_)=>(bh (a.1).length c).bind λd=>((aZ a.1 d λ_=>some ((a.1).set d h)).map λi=>(i,a.2)).bind λj=>some (.inl (IntKind.i64.wrap (c+(1:Int)),e,j,()))) (some (.inr (e,a,())))) ((0:Int),([],()),(List.replicate g [],()),())).bind λ(_,f,_)=>some (f,())
def AZ:cu->Option cH:=λ(k,a,_)=>(xC (((a.length:Nat):Int),())).bind λ(o,_)=>(loop (σ:=cg) (ρ:=cj) (λ(b,i,j,_)=>bif decide (b<((a.length:Nat):Int)) then(aC a b).bind λv=>((some (0)).bind λg=>(fV b).bind λh=>(gd g h a.length).map λ_=>(g,h)).bind λc=>(loop (σ:=cg) (ρ:=cj) (λ(d,e,f,_)=>bif decide (d<((((a.take c.2).drop c.1).length:Nat):Int)) then Option.bind (α:=cj) ((aC ((a.take c.2).drop c.1) d).bind λu=>(vo (k,v,u,())).bind λ(m,_)=>cond m ((xF (f,b,d,())).bind λ(l,_)=>some (e,l,())) (some (e,f,()))) λ(p,q,_)=>
 some (.inl (IntKind.i64.wrap (d+(1:Int)),p,q,())) else some (.inr (e,f,()))) ((0:Int),i,j,())).bind λ(r,s,_)=>some (.inl (IntKind.i64.wrap (b+(1:Int)),r,s,())) else some (.inr (i,j,()))) ((0:Int),([],()),o,())).bind λ(_,t,_)=>(xE (t,())).bind λ(n,_)=>some (n,())
def xD:cu->Option cD:=λ(a,b,_)=>(AW (a,b,())).bind λ(c,_)=>(cond (c !=(0:Int)) (some (([],()),c,())) ((AZ (a,b,())).bind λ(aR,_)=>some (aR,(0:Int),())))
def vg:c4->ad3:=λ(a,b,_)=>(q3 (a,())).bind λ(c,_)=>(q3 (b,())).bind λ(aR,_)=>(cond c (cond aR (some ((0:Int),())) (some ((-1:Int),()))) (cond aR (some ((1:Int),())) (cond (decide (a<b)) (some ((-1:Int),())) (cond (decide (a>b)) (some ((1:Int),())) (some ((0:Int),()))))))
def AC:c0->ad3:=λ(b,_)=>(loop (σ:=c6) (ρ:=cX) (λ(a,_)=>cond (decide (a<((b.length:Nat):Int))) ((aC b a).bind λc=>cond (c !=(0:Int)) (some (.inr (.inr (c,())))) (some (.inl (IntKind.i64.wrap (a+(1:Int)),())))) (some (.inr (.inl ())))) ((0:Int),())).bind λd=>match d with
 |.inl _=>(some ((0:Int),()))
 |.inr e=>some e
abbrev aN:Type:=ad5
abbrev eX:Type:=(aN×Unit)
abbrev dc:Type:=(Bool×eX)
abbrev bq:Type:=c6
abbrev bX:Type:=(Bool×(dc×bq))
abbrev Iz:Type:=(aN×(aN×eX))
abbrev gF:Type:=(List bX)
abbrev e6:Type:=(Int×(Int×(gF×Unit)))
abbrev ka:Type:=(List (Int×(Int×bq)))
abbrev hj:Type:=(List aN×(List aN×(List (Option (List (Int×bX)×Nat))×(List aN×Unit))))
abbrev bJ:Type:=(Int×(Int×Iz))
abbrev lD:Type:=(Int×(Int×eX))
abbrev eV:Type:=c5
abbrev l6:Type:=(Int×((List aN×Unit)×(List (Option (List (Int×bX)×Nat))×Unit)))
abbrev fv:Type:=(List (Int×(Int×(aN×bq))))
abbrev es:Type:=(aN×Iz)
abbrev eW:Type:=(bX×Unit)
abbrev j9:Type:=(e6×(lD×(gF×Unit)))
abbrev eJ:Type:=(dc×Unit)
abbrev pI:Type:=(bX×bX×Unit)
abbrev hh:Type:=(Int×aN×Unit)
abbrev fw:Type:=ad1
abbrev nA:Type:=(es×Int×Int×Unit)
abbrev l7:Type:=(Unit⊕eV)
abbrev oB:Type:=(Int×e6×e6×Unit)
abbrev jj:Type:=(ka×Unit)
abbrev nB:Type:=(e6×e6×Unit)
abbrev u1:Type:=(Int×es×List aN×es×Unit)
abbrev pJ:Type:=(Int×ka×Unit)
abbrev iD:Type:=(aN×aN×Unit)
abbrev jF:Type:=(dc×dc×Unit)
abbrev lA:Type:=(Unit⊕bq)
abbrev lB:Type:=(aN×Int×Unit)
abbrev l8:Type:=c4
abbrev pK:Type:=(e6×Int×Unit)
abbrev iR:Type:=(fv×List fw×Unit)
abbrev Eh:Type:=(Int×Int×ka×Unit)
abbrev qR:Type:=(Bool×(dc×(Int×eV)))
abbrev oC:Type:=(Int×Int×aN×Unit)
abbrev nC:Type:=(dc×Int×Unit)
abbrev Ei:Type:=((es×List aN×es×Unit)⊕(u1⊕((es×es×Unit)⊕nA)))
abbrev lC:Type:=(bJ×Unit)
def k2:eX->Option eX:=λ(c,_)=>(loop (σ:=bq) (ρ:=bq) (λ(a,_)=>Option.bind (α:=Unit⊕(bq⊕bq)) (cond (decide (a>0)==true) ((aC c (ar (a-1))).bind λj=>cond (j==0) (some (.inl ())) (some (.inr (.inr (a,()))))) (some (.inr (.inr (a,()))))) λh=>match h with
 |.inl _=>(some (.inl (ar (a-1),())))
 |.inr i=>some i) (ay c,())).bind λ(f,_)=>(loop (σ:=hh) (ρ:=eX) (λ(b,d,_)=>cond (decide (b<f)) ((aC c b).bind λe=>(bN (d.length+([e]).length)).bind λ_=>some (.inl (aY b,(d++[e]),()))) (some (.inr (d,())))) (0,[],())).bind λ(g,_)=>some (g,())
def kH:(Bool×aN×Unit)->Option eJ:=λ(c,b,_)=>(k2 (b,())).bind λ(a,_)=>(cond (c==true) (some ((decide (ay a>0),(a,())),())) (some ((false,(a,())),())))
def pW:bq->Option eJ:=λ(a,_)=>Option.bind (α:=(Int×dc×Unit)) (cond (decide (a<0)) (some (aJ (aJ (ar (0-aY a))+1),(false,([],())),())) (some (aJ a,(false,([],())),()))) λ(b,_,_)=>(dk IntKind.u64 b 32).bind λd=>(kH (decide (a<0),[b3 b,b3 d],())).bind λ(c,_)=>some (c,())
def oP:eJ->Option eJ:=λ(a,_)=>(kH (a.1,a.2.1,())).bind λ(b,_)=>some (b,())
def tc:Unit->Option eW:=λ_=>some ((true,((false,([],())),((0:Int),()))),())
def vw:bq->Option bq:=λ(a,_)=>(cond (a==0) (some (32,())) ((dk IntKind.u32 (b3 (dr IntKind.u32 a (b3 (0-a))*125613361)) 27).bind λb=>(aC oI b).bind λc=>some (ar c,())))
def pX:eJ->Option bq:=λ(c,_)=>(k2 (c.2.1,())).bind λ(b,_)=>(loop (σ:=bq) (ρ:=lA) (λ(a,_)=>cond (decide (a<ay b)) ((aC b a).bind λg=>cond (g !=0) ((aC b a).bind λh=>(vw (h,())).bind λ(f,_)=>some (.inr (.inr (ar (ar (32*a)+f),())))) (some (.inl (aY a,())))) (some (.inr (.inl ())))) (0,())).bind λd=>match d with
 |.inl _=>(some (0,()))
 |.inr e=>some e
def pU:eJ->Option eJ:=λ(a,_)=>(kH (false,a.2.1,())).bind λ(b,_)=>some (b,())
def vC:lB->Option eX:=λ(f,g,_)=>(gL IntKind.i64 g 32).bind λi=>(dV i i).bind λj=>(loop (σ:=oC) (ρ:=hh) (λ(a,b,c,_)=>cond (decide (b<ay f)) ((aC f b).bind λl=>(gM g 32).bind λm=>(gN IntKind.u64 (aJ l) m).bind λd=>(bN (c.length+([b3 (eL IntKind.u64 a d)]).length)).bind λ_=>(dk IntKind.u64 (eL IntKind.u64 a d) 32).bind λk=>some (.inl (k,aY b,(c++[b3 (eL IntKind.u64 a d)]),()))) (some (.inr (a,c,())))) (0,0,List.replicate j (0:Int),())).bind λ(e,h,_)=>(bN (h.length+([b3 e]).length)).bind λ_=>some ((h++[b3 e]),())
def vD:lB->Option (aN×Bool×Unit):=λ(b,d,_)=>(loop (σ:=c3) (ρ:=eV) (λ(e,c,_)=>Option.bind (α:=Unit⊕(c3⊕eV)) ((gL IntKind.i64 d 32).bind λw=>cond (decide (c<w)==true) (cond (decide (c<ay b)) (some (.inl ())) (some (.inr (.inr (e,()))))) (some (.inr (.inr (e,()))))) λt=>match t with
 |.inl _=>(Option.bind (α:=eV) (cond (e==false) ((aC b c).bind λx=>some ((x !=0),())) (some (true,()))) λ(m,_)=>some (.inl (m,aY c,())))
 |.inr u=>some u) (false,0,())).bind λ(n,_)=>(gM d 32).bind λj=>(gL IntKind.i64 d 32).bind λy=>(loop (σ:=(Bool×Int×aN×Unit)) (ρ:=(Bool×aN×Unit)) (λ(f,a,g,_)=>bif decide (a<ay b) then Option.bind (α:=(Bool×aN×Unit)) ((aC b a).bind λk=>Option.bind (α:=hh) (cond (decide (aY a<ay b)) ((aC b (aY a)).bind λz=>(gN IntKind.u64 (aJ z) 32).bind λA=>some (eL IntKind.u64 (aJ k) A,g,())) (some (aJ k,g,()))) λ(v,h,_)=>Option.bind (α:=(Bool×aN×Unit)) ((gL IntKind.i64 d 32).bind λB=>cond ((a==B)==true) ((aC b a).bind λC=>(gN IntKind.u32 1 j).bind λD=>cond (dr IntKind.u32 C (b3 (D-1))!=0) (some (true,h,())) (some (f,h,()))) (some (f,h,()))) λ(o,i,_)=>(dk IntKind.u64 v j).bind λl=>(bN (i.length+([b3 l]).length)).bind λ_=>some (o,(i++[b3 l]),())) λ(p,r,_)=>some (.inl (p,aY a,r,())) else
 some (.inr (f,g,()))) (n,y,[],())).bind λ(q,s,_)=>some (s,q,())
def xW:eJ->Option eJ:=λ(a,_)=>(kH ((!a.1),a.2.1,())).bind λ(b,_)=>some (b,())
def By:iD->Option eX:=λ(b,c,_)=>(loop (σ:=oC) (ρ:=hh) (λ(e,a,f,_)=>cond (decide (a<(if(ay c)>ay b then ay c else ay b))) (Option.bind (α:=hh) (Option.bind (α:=hh) (cond (decide (a<ay b)) ((aC b a).bind λo=>some (aJ (e+aJ o),f,())) (some (e,f,()))) λ(h,k,_)=>Option.bind (α:=hh) (cond (decide (a<ay c)) ((aC c a).bind λp=>some (aJ (h+aJ p),k,())) (some (h,k,()))) λ(d,i,_)=>(bN (i.length+([b3 d]).length)).bind λ_=>(dk IntKind.u64 d 32).bind λn=>some (n,(i++[b3 d]),())) λ(l,m,_)=>some (.inl (l,aY a,m,()))) (some (.inr (e,f,())))) (0,0,[],())).bind λ(g,j,_)=>(bN (j.length+([b3 g]).length)).bind λ_=>some ((j++[b3 g]),())
def xX:iD->Option bq:=λ(b,c,_)=>(bif ay b !=ay c then cond (decide (ay b<ay c)) (some ((-1:Int),())) (some (1,())) else((loop (σ:=bq) (ρ:=lA) (λ(a,_)=>cond (decide (a>=0)) ((aC b a).bind λf=>(aC c a).bind λg=>cond (f !=g) ((aC b a).bind λh=>(aC c a).bind λi=>cond (decide (h<i)) (some (.inr (.inr ((-1:Int),())))) (some (.inr (.inr (1,()))))) (some (.inl (ar (a-1),())))) (some (.inr (.inl ())))) (ar (ay b-1),())).bind λd=>match d with
 |.inl _=>(some (0,()))
 |.inr e=>some e))
def xY:iD->Option eX:=λ(d,e,_)=>(loop (σ:=oC) (ρ:=eX) (λ(f,a,b,_)=>cond (decide (a<ay d)) (Option.bind (α:=hh) ((aC d a).bind λh=>Option.bind (α:=hh) (cond (decide (a<ay e)) ((aC e a).bind λm=>some (aJ (aJ (aJ h-f)-aJ m),b,())) (some (aJ (aJ h-f),b,()))) λ(c,g,_)=>(bN (g.length+([b3 c]).length)).bind λ_=>(dk IntKind.u64 c 63).bind λl=>some (l,(g++[b3 c]),())) λ(i,j,_)=>some (.inl (i,aY a,j,()))) (some (.inr (b,())))) (0,0,[],())).bind λ(k,_)=>some (k,())
def oO:jF->Option eJ:=λ(a,c,_)=>(k2 (a.2.1,())).bind λ(b,_)=>(k2 (c.2.1,())).bind λ(aR,_)=>(cond (a.1==c.1) ((By (b,aR,())).bind λ(f,_)=>(kH (a.1,f,())).bind λ(g,_)=>some (g,())) ((xX (b,aR,())).bind λ(h,_)=>cond (decide (h>=0)) ((xY (b,aR,())).bind λ(i,_)=>(kH (a.1,i,())).bind λ(j,_)=>some (j,())) ((xY (aR,b,())).bind λ(d,_)=>(kH (c.1,d,())).bind λ(e,_)=>some (e,()))))
def vB:jF->Option eJ:=λ(a,b,_)=>(xW (b,())).bind λ(c,_)=>(oO (a,c,())).bind λ(aR,_)=>some (aR,())
def k1:nC->Option eJ:=λ(f,b,_)=>(oP (f,())).bind λ(a,_)=>(cond (decide (b>=0)) ((vC (a.2.1,b,())).bind λ(aR,_)=>(kH (a.1,aR,())).bind λ(j,_)=>some (j,())) ((vD (a.2.1,ar (0-b),())).bind λ(k,l,_)=>(kH (a.1,k,())).bind λ(d,_)=>Option.bind (α:=jF) (Option.bind (α:=(Bool×dc×dc×Unit)) (cond (a.1==true) (some (l,(false,([],())),d,())) (some (false,(false,([],())),d,()))) λ(m,e,c,_)=>cond m ((pW (1,())).bind λ(h,_)=>(vB (c,h,())).bind λ(i,_)=>some (e,i,())) (some (e,c,()))) λ(_,g,_)=>some (g,())))
def vE:nC->Option eJ:=λ(d,f,_)=>(loop (σ:=(Int×dc×dc×Unit)) (ρ:=(Int×dc×dc×Unit)) (λ(a,b,c,_)=>cond (decide (a>1048576)) ((k1 (b,(-1048576:Int),())).bind λ(i,_)=>some (.inl (ar (a-1048576),i,c,()))) (some (.inr (a,b,c,())))) (f,d,(false,([],())),())).bind λ(g,e,_,_)=>(k1 (e,ar (0-g),())).bind λ(h,_)=>some (h,())
def pV:eJ->Option bq:=λ(b,_)=>(k2 (b.2.1,())).bind λ(a,_)=>(cond (ay a==0) (some (0,())) ((aC a (ar (ay a-1))).bind λc=>(vv (c,())).bind λ(aR,_)=>some (ar (ar (32*ar (ay a-1))+aR),())))
def nI:nC->Option eW:=λ(e,a,_)=>(oP (e,())).bind λ(c,_)=>(bif ay c.2.1==0 then some ((false,((false,([],())),((0:Int),()))),()) else bif decide (a>65536) then(tc ()).bind λ(aR,_)=>some (aR,()) else((pX (c,())).bind λ(b,_)=>(pU (c,())).bind λ(k,_)=>(vE (k,b,())).bind λ(d,_)=>Option.bind (α:=(bX×dc×Unit)⊕eW) (Option.bind (α:=(Bool×bX×dc×Unit)) (cond (decide (ar (a+b)<(-65536:Int))==false) ((pV (d,())).bind λ(l,_)=>some (decide (ar (ar (a+b)+l)>65536),(false,((false,([],())),((0:Int),()))),d,())) (some (true,(false,((false,([],())),((0:Int),()))),d,()))) λ(n,m,f,_)=>cond n ((tc ()).bind λ(j,_)=>some (.inr (j,()))) (some (.inl (m,f,())))) λh=>match h with
 |.inl (_,g,_)=>(some ((false,((e.1,g.2),(ar (a+b),()))),()))
 |.inr i=>some i))
def x0:bq->Option eW:=λ(a,_)=>(pW (a,())).bind λ(b,_)=>(nI (b,0,())).bind λ(c,_)=>some (c,())
def mf:eW->Option eW:=λ(a,_)=>(cond a.1 ((tc ()).bind λ(b,_)=>some (b,())) ((nI (a.2.1,a.2.2.1,())).bind λ(c,_)=>some (c,())))
def ke:eJ->Option bq:=λ(b,_)=>(oP (b,())).bind λ(a,_)=>(cond (ay a.2.1==0) (some (0,())) (cond a.1 (some ((-1:Int),())) (some (1,()))))
def pY:c3->Option bq:=λ(b,a,_)=>(cond b (some (eL IntKind.u64 a 9223372036854775808,())) (some (a,())))
def x4:c3->Option bq:=λ(a,b,_)=>Option.bind (α:=Unit⊕bq) (Option.bind (α:=eV) (cond ((b==3)==false) (cond ((b==1)==true) (cond ((!a)==false) (cond ((b==2)==true) (some (a,())) (some (false,()))) (some (true,()))) (cond ((b==2)==true) (some (a,())) (some (false,())))) (some (true,()))) λ(f,_)=>cond f ((pY (a,9218868437227405311,())).bind λ(aR,_)=>some (.inr (aR,()))) (some (.inl ()))) λc=>match c with
 |.inl _=>((pY (a,9218868437227405312,())).bind λ(e,_)=>some (e,()))
 |.inr d=>some d
def xU:nC->Option eV:=λ(a,b,_)=>(k2 (a.2.1,())).bind λ(c,_)=>(vD (c,b,())).bind λ(_,d,_)=>some (d,())
def BH:(Bool×Int×Bool×Int×Unit)->Option eV:=λ(c,b,d,a,_)=>(cond (a==1) (some (c,())) (cond (a==2) (some ((!c),())) (cond (a==3) (some (false,())) (cond (decide (b>0)==false) (cond ((b==0)==true) (some (d,())) (some (false,()))) (some (true,()))))))
def BC:(Bool×dc×Int×Bool×Int×Unit)->Option eJ:=λ(q,b,a,h,p,_)=>(vE (b,a,())).bind λ(l,_)=>(xU (b,a,())).bind λ(D,_)=>Option.bind (α:=jF⊕eJ) (Option.bind (α:=(Bool×dc×dc×Unit)) (cond ((!D)==true) (some ((!h),(false,([],())),l,())) (some (false,(false,([],())),l,()))) λ(F,G,i,_)=>cond F (some (.inr (i,()))) (some (.inl (G,i,())))) λs=>match s with
 |.inl (g,f,_)=>(Option.bind (α:=(Int×dc×dc×Unit)) (cond (decide (a>0)) ((vE (b,ar (a-1),())).bind λ(k,_)=>Option.bind (α:=(Bool×dc×dc×Unit)) ((pX (k,())).bind λ(v,_)=>cond ((v==0)==true) ((ke (k,())).bind λ(w,_)=>some ((w !=0),g,f,())) (some (false,g,f,()))) λ(E,e,c,_)=>cond E (cond (h==false) ((xU (b,ar (a-1),())).bind λ(x,_)=>cond x (some (1,e,c,())) (some (0,e,c,()))) (some (1,e,c,()))) (some ((-1:Int),e,c,()))) (some ((-1:Int),g,f,()))) λ(o,m,d,_)=>Option.bind (α:=(Bool×dc×dc×Unit)) ((ke (d,())).bind λ(y,_)=>cond ((y !=0)==true) ((pX (d,())).bind λ(z,_)=>some ((z==0),m,d,())) (some (false,m,d,()))) λ(r,n,j,_)=>Option.bind (α:=jF) ((BH (q,o,r,p,())).bind λ(A,_)=>
  cond A ((pW (1,())).bind λ(B,_)=>(oO (j,B,())).bind λ(C,_)=>some (n,C,())) (some (n,j,()))) λ(_,t,_)=>some (t,()))
 |.inr u=>some u
def Bw:eJ->Option cZ:=λ(f,_)=>(oP (f,())).bind λ(d,_)=>(cond (decide (ay d.2.1>2)) (some (0,false,())) ((loop (σ:=(Int×Int×dc×Unit)) (ρ:=(Int×dc×Unit)) (λ(e,b,a,_)=>cond (decide (b<ay a.2.1)) ((aC a.2.1 b).bind λh=>(gN IntKind.u64 (aJ h) (ar (32*b))).bind λi=>some (.inl (eL IntKind.u64 e i,aY b,a,()))) (some (.inr (e,a,())))) (0,0,d,())).bind λ(c,g,_)=>cond g.1 (cond (decide (c>9223372036854775808)) (some (0,false,())) (some (ar (ar (0-ar (aJ (c-1)))-1),true,()))) (cond (decide (c>9223372036854775807)) (some (0,false,())) (some (ar c,true,())))))
def vF:(Bool×dc×Int×Bool×Int×Unit)->Option bq:=λ(c,e,a,i,f,_)=>(pV (e,())).bind λ(b,_)=>(bif decide (ar (ar (a+b)-1)>=1024) then(x4 (c,f,())).bind λ(p,_)=>some (p,()) else(Option.bind (α:=eJ) (cond (decide ((if(-1074:Int)>ar (ar (ar (a+b)-1)-52) then(-1074:Int) else ar (ar (ar (a+b)-1)-52))>=a)) ((BC (c,e,ar ((if(-1074:Int)>ar (ar (ar (a+b)-1)-52) then(-1074:Int) else ar (ar (ar (a+b)-1)-52))-a),i,f,())).bind λ(q,_)=>some (q,())) ((k1 (e,ar (a-(if(-1074:Int)>ar (ar (ar (a+b)-1)-52) then(-1074:Int) else ar (ar (ar (a+b)-1)-52))),())).bind λ(r,_)=>some (r,()))) λ(j,_)=>(Bw (j,())).bind λ(g,_,_)=>Option.bind (α:=l8) (bif g==9007199254740992 then some (aY (if(-1074:Int)>ar (ar (ar (a+b)-1)-52) then(-1074:Int) else ar (ar (ar (a+b)-1)-52)),4503599627370496,()) else
 some ((if(-1074:Int)>ar (ar (ar (a+b)-1)-52) then(-1074:Int) else ar (ar (ar (a+b)-1)-52)),g,())) λ(h,d,_)=>Option.bind (α:=Unit⊕bq) (Option.bind (α:=eV) (cond (decide (d>=4503599627370496)==true) (some (decide (ar (h+53)>1024),())) (some (false,()))) λ(s,_)=>cond s ((x4 (c,f,())).bind λ(m,_)=>some (.inr (m,()))) (cond (decide (d>=4503599627370496)) ((gN IntKind.u64 (aJ (ar (h+1075))) 52).bind λt=>(pY (c,eL IntKind.u64 t (aJ (ar (d-4503599627370496))),())).bind λ(n,_)=>some (.inr (n,()))) (some (.inl ())))) λk=>match k with
 |.inl _=>((pY (c,aJ d,())).bind λ(o,_)=>some (o,()))
 |.inr l=>some l))
def x3:(bX×Int×Unit)->Option bq:=λ(b,c,_)=>(mf (b,())).bind λ(a,_)=>(cond a.1 (some (9221120237041090560,())) ((ke (a.2.1,())).bind λ(aR,_)=>cond (aR==0) (some (0,())) ((pU (a.2.1,())).bind λ(d,_)=>(vF (a.2.1.1,d,a.2.2.1,false,c,())).bind λ(e,_)=>some (e,()))))
def td:l8->Option bq:=λ(b,a,_)=>(x0 (b,())).bind λ(c,_)=>(x3 (c,a,())).bind λ(aR,_)=>some (aR,())
def vk:bq->Option l8:=λ(a,_)=>(dk IntKind.u64 a 52).bind λb=>some (ar (dr IntKind.u64 b 2047),dr IntKind.u64 a 4503599627370495,())
def q5:bq->Option eV:=λ(a,_)=>(vk (a,())).bind λ(b,_,_)=>some ((b !=2047),())
def g1:eX->Option eX:=λ(b,_)=>(loop (σ:=bq) (ρ:=bq) (λ(a,_)=>Option.bind (α:=Unit⊕(bq⊕bq)) (cond (decide (a>0)==true) ((aC b (ar (a-1))).bind λi=>cond (i==0) (some (.inl ())) (some (.inr (.inr (a,()))))) (some (.inr (.inr (a,()))))) λg=>match g with
 |.inl _=>(some (.inl (ar (a-1),())))
 |.inr h=>some h) (ay b,())).bind λ(f,_)=>((some (0)).bind λc=>(fV f).bind λd=>(gd c d b.length).map λ_=>(c,d)).bind λe=>some (((b.take e.2).drop e.1),())
def kc:(Bool×aN×Unit)->Option eJ:=λ(c,b,_)=>(g1 (b,())).bind λ(a,_)=>(cond (ay a==0) (some ((false,(([]:aN),())),())) (some ((c,(a,())),())))
def vq:bq->Option eJ:=λ(a,_)=>Option.bind (α:=(Int×dc×Unit)) (cond (decide (a<0)) (some (aJ (0-aJ a),(false,([],())),())) (some (aJ a,(false,([],())),()))) λ(b,_,_)=>(dk IntKind.u64 b 32).bind λd=>(kc (decide (a<0),[b3 (dr IntKind.u64 b 4294967295),b3 d],())).bind λ(c,_)=>some (c,())
def AT:bq->Option eV:=λ(a,_)=>some ((dr IntKind.u64 a 9223372036854775808 !=0),())
def s8:eX->Option eX:=λ(a,_)=>m7 a.length (some ([],())) ((bN (([]:aN).length+a.length)).bind λ_=>some (([]++a),()))
def q7:eJ->Option eJ:=λ(a,_)=>(s8 (a.2.1,())).bind λ(b,_)=>(kc ((!a.1),b,())).bind λ(c,_)=>some (c,())
def vj:Unit->Option eW:=λ_=>some ((true,((false,([],())),((0:Int),()))),())
def A4:eJ->Option eJ:=λ(a,_)=>(s8 (a.2.1,())).bind λ(b,_)=>(kc (a.1,b,())).bind λ(c,_)=>some (c,())
def nH:eJ->Option bq:=λ(a,_)=>(g1 (a.2.1,())).bind λ(b,_)=>(cond (ay b==0) (some (0,())) (cond a.1 (some ((-1:Int),())) (some (1,()))))
def xI:eJ->Option bq:=λ(b,_)=>(loop (σ:=bq) (ρ:=lA) (λ(a,_)=>cond (decide (a<ay b.2.1)) ((aC b.2.1 a).bind λc=>cond (c !=0) ((vw (c,())).bind λ(aR,_)=>some (.inr (.inr (ar (ar (a*32)+aR),())))) (some (.inl (aY a,())))) (some (.inr (.inl ())))) (0,())).bind λd=>match d with
 |.inl _=>(some (0,()))
 |.inr e=>some e
def vt:eX->Option bq:=λ(a,_)=>(cond (ay a==0) (some (0,())) ((aC a (ar (ay a-1))).bind λc=>(vv (c,())).bind λ(b,_)=>some (ar (ar (ar (ay a-1)*32)+b),())))
def pS:eJ->Option bq:=λ(a,_)=>(g1 (a.2.1,())).bind λ(b,_)=>(vt (b,())).bind λ(c,_)=>some (c,())
def s5:lB->Option eX:=λ(b,e,_)=>(cond (ay b==0) (some ([],())) ((gL IntKind.i64 e 32).bind λc=>(gM e 32).bind λj=>(dV (aY (ar (c+ay b))) (aY (ar (c+ay b)))).bind λg=>(loop (σ:=hh) (ρ:=eX) (λ(a,d,_)=>cond (decide (a<ay b)) ((aC b a).bind λk=>(gN IntKind.u64 (aJ k) (aJ j)).bind λf=>rd d (ar (c+a)) λl=>wr d (ar (c+a)) (eL IntKind.u32 l (b3 (dr IntKind.u64 f 4294967295))) λn=>(dk IntKind.u64 f 32).bind λm=>wr n (aY (ar (c+a))) (b3 m) λo=>some (.inl (aY a,o,()))) (some (.inr (d,())))) (0,List.replicate g (0:Int),())).bind λ(h,_)=>(g1 (h,())).bind λ(i,_)=>some (i,())))
def ER:bq->Option eV:=λ(a,_)=>some ((a !=0),())
def E0:(aN×Unit×Unit)->Option bq:=λ(b,_,_)=>(loop (σ:=bq) (ρ:=lA) (λ(a,_)=>cond (decide (a<ay b)) ((aC b a).bind λf=>(ER (f,())).bind λ(e,_)=>cond e (some (.inr (.inr (a,())))) (some (.inl (aY a,())))) (some (.inr (.inl ())))) (0,())).bind λc=>match c with
 |.inl _=>(some ((-1:Int),()))
 |.inr d=>some d
def xL:(aN×Unit×Unit)->Option eV:=λ(b,_,_)=>(E0 (b,(),())).bind λ(a,_)=>some (decide (a>=0),())
def vr:lB->Option (aN×Bool×Unit):=λ(a,h,_)=>(gL IntKind.i64 h 32).bind λb=>(gM h 32).bind λj=>(bif decide (b>=ay a) then some ([],decide (ay a>0),()) else Option.bind (α:=eV) (((some (0)).bind λe=>(fV b).bind λf=>(gd e f a.length).map λ_=>(e,f)).bind λi=>(xL (((a.take i.2).drop i.1),(),())).bind λ(p,_)=>cond (p==false) ((aC a b).bind λs=>(gN IntKind.u32 1 (aJ j)).bind λt=>some ((dr IntKind.u32 s (b3 (t-1))!=0),())) (some (true,()))) λ(l,_)=>(dV (ar (ay a-b)) (ar (ay a-b))).bind λg=>(loop (σ:=hh) (ρ:=eX) (λ(c,d,_)=>bif decide (c<ay (List.replicate g (0:Int))) then Option.bind (α:=eX) ((aC a (ar (b+c))).bind λk=>Option.bind (α:=hh) (cond (decide (aY (ar (b+c))<ay a)) ((aC a (aY (ar (b+c)))).bind λu=>(gN IntKind.u64 (aJ u) 32).bind λv=>some (eL IntKind.u64 (aJ k) v,d,())) (some (aJ k,d,()))) λ(r,m,_)=>
 (dk IntKind.u64 r (aJ j)).bind λw=>wr m c (b3 (dr IntKind.u64 w 4294967295)) λx=>some (x,())) λ(n,_)=>some (.inl (aY c,n,())) else some (.inr (d,()))) (0,List.replicate g (0:Int),())).bind λ(o,_)=>(g1 (o,())).bind λ(q,_)=>some (q,l,()))
def s4:iD->Option eX:=λ(b,d,_)=>Option.bind (α:=iD) (cond (decide (ay b<ay d)) (some (d,b,())) (some (b,d,()))) λ(c,h,_)=>(dV 0 (aY (ay c))).bind λn=>(loop (σ:=oC) (ρ:=hh) (λ(e,a,f,_)=>cond (decide (a<ay c)) (Option.bind (α:=hh) ((aC c a).bind λl=>Option.bind (α:=hh) (cond (decide (a<ay h)) ((aC h a).bind λq=>some (aJ (aJ (aJ l+e)+aJ q),f,())) (some (aJ (aJ l+e),f,()))) λ(g,j,_)=>(bN (j.length+([b3 (dr IntKind.u64 g 4294967295)]).length)).bind λ_=>(dk IntKind.u64 g 32).bind λr=>some (r,(j++[b3 (dr IntKind.u64 g 4294967295)]),())) λ(m,o,_)=>some (.inl (m,aY a,o,()))) (some (.inr (e,f,())))) (0,0,List.replicate n (0:Int),())).bind λ(i,k,_)=>(bN (k.length+([b3 i]).length)).bind λ_=>(g1 ((k++[b3 i]),())).bind λ(p,_)=>some (p,())
def pT:nC->Option nC:=λ(b,a,_)=>Option.bind (α:=eJ⊕nC) (Option.bind (α:=(Bool×dc×Unit)) (cond (decide (a<(-1048576:Int))==false) (some (decide (a>1048576),(false,([],())),())) (some (true,(false,([],())),()))) λ(p,q,_)=>cond p (some (.inr ((false,(([]:aN),())),3,()))) (some (.inl (q,())))) λh=>match h with
 |.inl (f,_)=>((g1 (b.2.1,())).bind λ(c,_)=>cond (decide (a>=0)) ((s5 (c,a,())).bind λ(m,_)=>(kc (b.1,m,())).bind λ(n,_)=>some (n,0,())) ((vr (c,ar (0-a),())).bind λ(d,j,_)=>Option.bind (α:=(aN×dc×Unit)) (Option.bind (α:=(Bool×dc×Unit)) (cond (b.1==true) (some (j,f,())) (some (false,f,()))) λ(o,e,_)=>cond o ((s4 (d,[1],())).bind λ(k,_)=>some (k,e,())) (some (d,e,()))) λ(g,_,_)=>(kc (b.1,g,())).bind λ(l,_)=>some (l,0,())))
 |.inr i=>some i
def xv:nC->Option eJ:=λ(d,f,_)=>(loop (σ:=(Int×dc×dc×Unit)) (ρ:=(Int×dc×dc×Unit)) (λ(a,b,c,_)=>cond (decide (a>1048576)) ((pT (b,(-1048576:Int),())).bind λ(i,_,_)=>some (.inl (ar (a-1048576),i,c,()))) (some (.inr (a,b,c,())))) (f,d,(false,([],())),())).bind λ(g,e,_,_)=>(pT (e,ar (0-g),())).bind λ(h,_,_)=>some (h,())
def mT:eW->Option (bX×Bool×Unit):=λ(a,_)=>(bif a.1 then(vj ()).bind λ(j,_)=>some (j,false,()) else(A4 (a.2.1,())).bind λ(b,_)=>(nH (b,())).bind λ(aR,_)=>bif aR==0 then some ((false,((false,([],())),((0:Int),()))),true,()) else((xI (b,())).bind λ(c,_)=>Option.bind (α:=(bX×dc×Unit)⊕(bX×Bool×Unit)) (Option.bind (α:=(Bool×bX×dc×Unit)) ((pS (b,())).bind λ(k,_)=>cond (decide (a.2.2.1>ar (65536-k))==false) (some (decide (a.2.2.1<ar ((-65536:Int)-c)),(false,((false,([],())),((0:Int),()))),b,())) (some (true,(false,((false,([],())),((0:Int),()))),b,()))) λ(l,m,e,_)=>cond l ((vj ()).bind λ(h,_)=>some (.inr (h,false,()))) (some (.inl (m,e,())))) λf=>match f with
 |.inl (_,d,_)=>((xv (d,c,())).bind λ(i,_)=>some ((false,(i,(ar (a.2.2.1+c),()))),true,()))
 |.inr g=>some g))
def sZ:nC->Option eW:=λ(b,a,_)=>(mT ((false,(b,(a,()))),())).bind λ(c,_,_)=>some (c,())
def pR:bq->Option eW:=λ(b,_)=>(vk (b,())).bind λ(a,c,_)=>Option.bind (α:=(Int×Int×bX×Unit)⊕eW) (cond (a==2047) (some (.inr ((true,((false,([],())),((0:Int),()))),()))) (cond (a==0) (some (.inl ((-1074:Int),c,(false,((false,([],())),((0:Int),()))),()))) (some (.inl (ar (a-1075),eL IntKind.u64 c 4503599627370496,(false,((false,([],())),((0:Int),()))),()))))) λi=>match i with
 |.inl (f,g,e,_)=>((vq (ar g,())).bind λ(d,_)=>Option.bind (α:=(bX×dc×Unit)) ((AT (b,())).bind λ(l,_)=>cond l ((q7 (d,())).bind λ(m,_)=>some (e,m,())) (some (e,d,()))) λ(_,h,_)=>(sZ (h,f,())).bind λ(k,_)=>some (k,()))
 |.inr j=>some j
def xw:pI->Option (bX×bX×Bool×Unit):=λ(c,d,_)=>(mT (c,())).bind λ(a,aR,_)=>(mT (d,())).bind λ(b,e,_)=>(cond (aR==true) (some (a,b,e,())) (some (a,b,false,())))
def A9:iD->Option eX:=λ(c,a,_)=>Option.bind (α:=Unit⊕eX) (cond ((ay c==0)==false) (cond (ay a==0) (some (.inr ([],()))) (some (.inl ()))) (some (.inr ([],())))) λo=>match o with
 |.inl _=>((dV (ar (ay c+ay a)) (ar (ay c+ay a))).bind λl=>(loop (σ:=hh) (ρ:=eX) (λ(b,g,_)=>cond (decide (b<ay c)) ((aC c b).bind λh=>(loop (σ:=oC) (ρ:=hh) (λ(e,d,f,_)=>cond (decide (d<ay a)) ((aC a d).bind λi=>rd f (ar (b+d)) λj=>wr f (ar (b+d)) (b3 (dr IntKind.u64 (aJ (aJ (aJ (aJ h*aJ i)+aJ j)+e)) 4294967295)) λs=>(dk IntKind.u64 (aJ (aJ (aJ (aJ h*aJ i)+aJ j)+e)) 32).bind λr=>some (.inl (r,aY d,s,()))) (some (.inr (e,f,())))) (0,0,g,())).bind λ(k,m,_)=>wr m (ar (b+ay a)) (b3 k) λt=>some (.inl (aY b,t,()))) (some (.inr (g,())))) (0,List.replicate l (0:Int),())).bind λ(n,_)=>(g1 (n,())).bind λ(q,_)=>some (q,()))
 |.inr p=>some p
def xH:jF->Option eJ:=λ(a,b,_)=>(g1 (a.2.1,())).bind λ(c,_)=>(g1 (b.2.1,())).bind λ(aR,_)=>(A9 (c,aR,())).bind λ(d,_)=>(kc ((!(a.1==b.1)),d,())).bind λ(e,_)=>some (e,())
def xo:pI->Option eW:=λ(b,c,_)=>(xw (b,c,())).bind λ(a,aR,d,_)=>(cond (!d) ((vj ()).bind λ(e,_)=>some (e,())) ((xH (a.2.1,aR.2.1,())).bind λ(f,_)=>(sZ (f,ar (a.2.2.1+aR.2.2.1),())).bind λ(g,_)=>some (g,())))
def xp:eW->Option eW:=λ(b,_)=>(mT (b,())).bind λ(a,d,_)=>Option.bind (α:=pI) (cond d ((q7 (a.2.1,())).bind λ(aR,_)=>some ((a.1,(aR,a.2.2)),(false,((false,([],())),((0:Int),()))),())) (some (a,(false,((false,([],())),((0:Int),()))),()))) λ(c,_,_)=>some (c,())
def me:nC->Option eJ:=λ(a,b,_)=>(pT (a,b,())).bind λ(c,_,_)=>some (c,())
def AD:bq->Option eV:=λ(a,_)=>some ((a !=a),())
def AB:l8->Option bq:=λ(a,b,_)=>(AD (a,())).bind λ(c,_)=>(AD (b,())).bind λ(aR,_)=>(cond c (cond aR (some (0,())) (some ((-1:Int),()))) (cond aR (some (1,())) (cond (decide (a<b)) (some ((-1:Int),())) (cond (decide (a>b)) (some (1,())) (some (0,()))))))
def s3:iD->Option bq:=λ(b,c,_)=>(bif ay b !=ay c then(vg (ay b,ay c,())).bind λ(f,_)=>some (f,()) else((loop (σ:=bq) (ρ:=lA) (λ(a,_)=>cond (decide (a>=0)) ((aC b a).bind λh=>(aC c a).bind λi=>cond (h !=i) ((aC b a).bind λj=>(aC c a).bind λk=>(AB (j,k,())).bind λ(g,_)=>some (.inr (.inr (g,())))) (some (.inl (ar (a-1),())))) (some (.inr (.inl ())))) (ar (ay b-1),())).bind λd=>match d with
 |.inl _=>(some (0,()))
 |.inr e=>some e))
def vu:iD->Option eX:=λ(b,d,_)=>(dV (ay b) (ay b)).bind λi=>(loop (σ:=oC) (ρ:=eX) (λ(e,a,c,_)=>cond (decide (a<ay b)) (Option.bind (α:=hh) ((aC b a).bind λg=>Option.bind (α:=hh) (cond (decide (a<ay d)) ((aC d a).bind λn=>some (aJ (aJ (aJ g-e)-aJ n),c,())) (some (aJ (aJ g-e),c,()))) λ(f,j,_)=>wr j a (b3 (dr IntKind.u64 f 4294967295)) λp=>(dk IntKind.u64 f 32).bind λo=>some (dr IntKind.u64 o 1,p,())) λ(h,k,_)=>some (.inl (h,aY a,k,()))) (some (.inr (c,())))) (0,0,List.replicate i (0:Int),())).bind λ(l,_)=>(g1 (l,())).bind λ(m,_)=>some (m,())
def q6:jF->Option eJ:=λ(a,c,_)=>(g1 (a.2.1,())).bind λ(b,_)=>(g1 (c.2.1,())).bind λ(aR,_)=>(cond (a.1==c.1) ((s4 (b,aR,())).bind λ(f,_)=>(kc (a.1,f,())).bind λ(g,_)=>some (g,())) ((s3 (b,aR,())).bind λ(h,_)=>cond (decide (h>=0)) ((vu (b,aR,())).bind λ(i,_)=>(kc (a.1,i,())).bind λ(j,_)=>some (j,())) ((vu (aR,b,())).bind λ(d,_)=>(kc (c.1,d,())).bind λ(e,_)=>some (e,()))))
def xu:(gF×Unit)->Option eW:=λ(i,_)=>(loop (σ:=(Int×Int×bX×gF×Unit)) (ρ:=((Int×bX×gF×Unit)⊕eW)) (λ(c,e,k,b,_)=>cond (decide (e<ay i)) ((aC i e).bind λw=>(mT (w,())).bind λ(a,s,_)=>cond (!s) ((vj ()).bind λ(t,_)=>some (.inr (.inr (t,())))) ((bN (b.length+([a]).length)).bind λ_=>some (.inl ((if a.2.2.1<c then a.2.2.1 else c),aY e,k,(b++[a]),())))) (some (.inr (.inl (c,k,b,()))))) (0,0,(false,((false,([],())),((0:Int),()))),[],())).bind λn=>match n with
 |.inl (h,u,f,_)=>((loop (σ:=(Int×bX×gF×dc×Unit)) (ρ:=(bX×dc×Unit)) (λ(d,j,g,l,_)=>cond (decide (d<ay f)) (rd g d λm=>(me (m.2.1,ar (m.2.2.1-h),())).bind λ(p,_)=>(q6 (l,p,())).bind λ(q,_)=>some (.inl (aY d,j,g,q,()))) (some (.inr (j,l,())))) (0,u,f,(false,([],())),())).bind λ(_,v,_)=>(sZ (v,h,())).bind λ(r,_)=>some (r,()))
 |.inr o=>some o
def pQ:eW->Option bq:=λ(a,_)=>(mT (a,())).bind λ(b,_,_)=>(nH (b.2.1,())).bind λ(aR,_)=>some (aR,())
def q4:eW->Option eW:=λ(a,_)=>(mT (a,())).bind λ(b,_,_)=>some (b,())
def A8:lB->Option lB:=λ(a,c,_)=>(dV (ay a) (ay a)).bind λh=>(loop (σ:=oC) (ρ:=hh) (λ(e,b,d,_)=>cond (decide (b>=0)) ((gN IntKind.u64 e 32).bind λf=>(aC a b).bind λg=>(gL IntKind.u64 (eL IntKind.u64 f (aJ g)) (aJ c)).bind λl=>wr d b (b3 l) λn=>(gM (eL IntKind.u64 f (aJ g)) (aJ c)).bind λm=>some (.inl (m,ar (b-1),n,()))) (some (.inr (e,d,())))) (0,ar (ay a-1),List.replicate h (0:Int),())).bind λ(k,i,_)=>(g1 (i,())).bind λ(j,_)=>some (j,b3 k,())
def s6:bq->Option bq:=λ(b,_)=>(vv (b,())).bind λ(a,_)=>some (ar (32-a),())
def xJ:((aN×Nat×Nat)×aN×Unit)->Option lB:=λ(b,a,_)=>(bh (b.2.2-b.2.1) (ay a)).bind λV=>(aZ b.1 (b.2.1+V) λP=>some P).bind λci=>(gN IntKind.u64 (aJ ci) 32).bind λI=>(bh (b.2.2-b.2.1) (ar (ay a-1))).bind λab=>(aZ b.1 (b.2.1+ab) λT=>some T).bind λK=>(aC a (ar (ay a-1))).bind λav=>(gL IntKind.u64 (eL IntKind.u64 I (aJ K)) (aJ av)).bind λa0=>(aC a (ar (ay a-1))).bind λa3=>(gM (eL IntKind.u64 I (aJ K)) (aJ a3)).bind λa4=>(loop (σ:=(c7×Int×Int×aN×Unit)) (ρ:=(c7×Int×aN×Unit)) (λ(g,h,r,m,_)=>Option.bind (α:=(c7×aN×Unit)⊕((c7×Int×Int×aN×Unit)⊕(c7×Int×aN×Unit))) (bif decide (h>4294967295)==false then(aC a (ar (ay a-2))).bind λbd=>(gN IntKind.u64 r 32).bind λbl=>(bh (g.2-g.1) (ar (ay a-2))).bind λU=>(aZ m (g.1+U) λN=>some N).bind λbs=>bif decide (aJ (h*aJ bd)>eL IntKind.u64 bl (aJ bs)) then
 some (.inl (g,m,())) else some (.inr (.inr (g,h,m,()))) else some (.inl (g,m,()))) λad=>match ad with
 |.inl (C,D,_)=>((aC a (ar (ay a-1))).bind λE=>cond (decide (aJ (r+aJ E)>4294967295)) (some (.inr (C,aJ (h-1),D,()))) (some (.inl (C,aJ (h-1),aJ (r+aJ E),D,()))))
 |.inr am=>some am) (b.2,a0,a4,b.1,())).bind λ(an,i,ap,_)=>(loop (σ:=(c7×Int×Int×Int×aN×Unit)) (ρ:=(c7×Int×Int×aN×Unit)) (λ(e,l,p,j,n,_)=>cond (decide (j<ay a)) ((aC a j).bind λu=>(dk IntKind.u64 (aJ (aJ (i*aJ u)+l)) 32).bind λbB=>(bh (e.2-e.1) j).bind λW=>(aZ n (e.1+W) λO=>some O).bind λF=>(bh (e.2-e.1) j).bind λy=>(aZ n (e.1+y) λ_=>some (n.set (e.1+y) (b3 (dr IntKind.u64 (aJ (aJ (aJ F-dr IntKind.u64 (aJ (aJ (i*aJ u)+l)) 4294967295)-p)) 4294967295)))).bind λc1=>(dk IntKind.u64 (aJ (aJ (aJ F-dr IntKind.u64 (aJ (aJ (i*aJ u)+l)) 4294967295)-p)) 32).bind λce=>some (.inl (e,bB,dr IntKind.u64 ce 1,aY j,c1,()))) (some (.inr (e,l,p,n,())))) (an,0,0,0,ap,())).bind λ(c,x,w,s,_)=>(bh (c.2-c.1) (ay a)).bind λX=>(aZ s (c.1+X) λQ=>some Q).bind λG=>
 (bh (c.2-c.1) (ay a)).bind λz=>(aZ s (c.1+z) λ_=>some (s.set (c.1+z) (b3 (dr IntKind.u64 (aJ (aJ (aJ G-x)-w)) 4294967295)))).bind λv=>(dk IntKind.u64 (aJ (aJ (aJ G-x)-w)) 32).bind λco=>(bif dr IntKind.u64 co 1==0 then cond (Nat.beq c.1 b.2.1&&(Nat.beq c.2 b.2.2&&(Nat.beq v.length ((b.1).length)&&Nat.blt c.1 c.2))) (some (v,b3 i,())) none else(loop (σ:=(c7×Int×Int×aN×Unit)) (ρ:=(c7×Int×aN×Unit)) (λ(f,q,k,o,_)=>cond (decide (k<ay a)) ((aC a k).bind λH=>(bh (f.2-f.1) k).bind λY=>(aZ o (f.1+Y) λR=>some R).bind λJ=>(bh (f.2-f.1) k).bind λA=>(aZ o (f.1+A) λ_=>some (o.set (f.1+A) (b3 (dr IntKind.u64 (aJ (aJ (aJ J+aJ H)+q)) 4294967295)))).bind λc2=>(dk IntKind.u64 (aJ (aJ (aJ J+aJ H)+q)) 32).bind λcs=>some (.inl (f,cs,aY k,c2,()))) (some (.inr (f,q,o,())))) (c,0,0,v,())).bind λ(d,M,t,_)=>
 (bh (d.2-d.1) (ay a)).bind λZ=>(aZ t (d.1+Z) λS=>some S).bind λcv=>(bh (d.2-d.1) (ay a)).bind λB=>(aZ t (d.1+B) λ_=>some (t.set (d.1+B) (b3 (cv+b3 M)))).bind λL=>cond (Nat.beq d.1 b.2.1&&(Nat.beq d.2 b.2.2&&(Nat.beq L.length ((b.1).length)&&Nat.blt d.1 d.2))) (some (L,b3 (aJ (i-1)),())) none)
def xK:iD->Option iD:=λ(a,b,_)=>(s3 (a,b,())).bind λ(t,_)=>(bif decide (t<0) then(s8 (a,())).bind λ(u,_)=>some ([],u,()) else bif ay b==1 then(aC b 0).bind λC=>(A8 (a,C,())).bind λ(v,w,_)=>(g1 ([w],())).bind λ(x,_)=>some (v,x,()) else(aC b (ar (ay b-1))).bind λD=>(s6 (D,())).bind λ(h,_)=>(s5 (b,h,())).bind λ(e,_)=>(dV (aY (ay a)) (aY (ay a))).bind λc=>(s5 (a,h,())).bind λ(i,_)=>(dV (ar (ay (h6 (List.replicate c (0:Int)) i 0 (List.replicate c (0:Int)).length)-ay e)) (ar (ay (h6 (List.replicate c (0:Int)) i 0 (List.replicate c (0:Int)).length)-ay e))).bind λn=>(loop (σ:=(Int×aN×aN×Unit)) (ρ:=iD) (λ(d,p,g,_)=>bif decide (d>=0) then((fV d).bind λj=>(fV (aY (ar (d+ay e)))).bind λk=>(gd j k g.length).bind λ_=>(uc g.length).map λ_=>(j,k)).bind λf=>
 cond (Nat.blt f.1 f.2) ((xJ ((g,f.1,f.2),e,())).bind λ(r,y,_)=>wr p d y λE=>some (.inl (ar (d-1),E,r,()))) none else some (.inr (p,g,()))) (ar (ay (List.replicate n (0:Int))-1),List.replicate n (0:Int),h6 (List.replicate c (0:Int)) i 0 (List.replicate c (0:Int)).length,())).bind λ(s,q,_)=>((some (0)).bind λl=>(fV (ay e)).bind λm=>(gd l m q.length).map λ_=>(l,m)).bind λo=>(g1 (((q.take o.2).drop o.1),())).bind λ(z,_)=>(vr (z,h,())).bind λ(A,_,_)=>(g1 (s,())).bind λ(B,_)=>some (B,A,()))
def A7:eX->Option eX:=λ(b,_)=>(cond (ay b==0) (some ([],())) ((vt (b,())).bind λ(e,_)=>(gL IntKind.i64 (aY e) 2).bind λh=>(s5 ([1],h,())).bind λ(aR,_)=>(loop (σ:=eX) (ρ:=eX) (λ(a,_)=>(xK (b,a,())).bind λ(f,_,_)=>(s4 (a,f,())).bind λ(g,_)=>(vr (g,1,())).bind λ(c,_,_)=>(s3 (c,a,())).bind λ(d,_)=>cond (decide (d>=0)) (some (.inr (a,()))) (some (.inl (c,())))) (aR,())).bind some))
def A5:eJ->Option nC:=λ(a,_)=>(nH (a,())).bind λ(b,_)=>(cond (decide (b<0)) (some ((false,(([]:aN),())),11,())) ((g1 (a.2.1,())).bind λ(c,_)=>(A7 (c,())).bind λ(aR,_)=>(kc (false,aR,())).bind λ(d,_)=>some (d,0,())))
def xG:jF->Option bq:=λ(b,c,_)=>(nH (b,())).bind λ(a,_)=>(nH (c,())).bind λ(aR,_)=>(cond (decide (a<aR)) (some ((-1:Int),())) (cond (decide (a>aR)) (some (1,())) ((g1 (b.2.1,())).bind λ(d,_)=>(g1 (c.2.1,())).bind λ(e,_)=>(s3 (d,e,())).bind λ(f,_)=>some (ar (a*f),()))))
def AO:(bX×Int×Unit)->Option (qR×Unit):=λ(c,a,_)=>(pS (c.2.1,())).bind λ(b,_)=>Option.bind (α:=(Int×qR×Unit)) ((gM (ar (c.2.2.1-(if(ar (ar (2*ar (a+3))-b))>0 then ar (ar (2*ar (a+3))-b) else 0))) 2).bind λj=>cond (j !=0) (some (aY (if(ar (ar (2*ar (a+3))-b))>0 then ar (ar (2*ar (a+3))-b) else 0),(false,((false,([],())),((0:Int),(false,())))),())) (some ((if(ar (ar (2*ar (a+3))-b))>0 then ar (ar (2*ar (a+3))-b) else 0),(false,((false,([],())),((0:Int),(false,())))),()))) λ(e,_,_)=>(me (c.2.1,e,())).bind λ(f,_)=>(A5 (f,())).bind λ(d,_,_)=>(gL IntKind.i64 (ar (c.2.2.1-e)) 2).bind λi=>(xH (d,d,())).bind λ(g,_)=>(xG (g,f,())).bind λ(h,_)=>some ((false,(d,(i,((h !=0),())))),())
def AM:(qR×Unit)->Option bq:=λ(a,_)=>(pS (a.2.1,())).bind λ(b,_)=>some (ar (ar (a.2.2.1+b)-1),())
def A6:jF->Option eJ:=λ(b,a,_)=>(q6 (b,((!a.1),a.2),())).bind λ(c,_)=>some (c,())
def xq:(qR×Int×Unit)->Option (dc×Int×Bool×Unit):=λ(a,b,_)=>(pS (a.2.1,())).bind λ(h,_)=>(cond (decide (b>h)) (some ((false,(([]:aN),())),(-1:Int),false,())) ((xv (a.2.1,b,())).bind λ(aR,_)=>(me (aR,b,())).bind λ(i,_)=>(A6 (a.2.1,i,())).bind λ(c,_)=>(vq (1,())).bind λ(j,_)=>(me (j,ar (b-1),())).bind λ(k,_)=>(xG (c,k,())).bind λ(d,_)=>Option.bind (α:=(Int×dc×dc×Unit)) (cond ((d==0)==true) (cond a.2.2.2.1 (some (1,aR,c,())) (some (d,aR,c,()))) (some (d,aR,c,()))) λ(e,f,l,_)=>(nH (l,())).bind λ(g,_)=>cond ((g==0)==true) (some (f,e,(!a.2.2.2.1),())) (some (f,e,false,()))))
def AN:(qR×Int×Int×Unit)->Option eJ:=λ(c,e,d,_)=>Option.bind (α:=(Int×Bool×dc×dc×Unit)) (cond (decide (e<=c.2.2.1)) ((me (c.2.1,ar (c.2.2.1-e),())).bind λ(aR,_)=>some ((-1:Int),true,(false,([],())),aR,())) ((xq (c,ar (e-c.2.2.1),())).bind λ(s,t,u,_)=>some (t,u,(false,([],())),s,()))) λ(f,l,b,a,_)=>Option.bind (α:=(Bool×dc×dc×Unit)) (cond l (some (false,b,a,())) (cond (d==1) (some (c.1,b,a,())) (cond (d==2) (some ((!c.1),b,a,())) (cond (d==3) (some (false,b,a,())) (cond (decide (f>0)==false) (cond ((f==0)==true) ((nH (a,())).bind λ(n,_)=>cond ((n !=0)==true) ((xI (a,())).bind λ(o,_)=>some ((o==0),b,a,())) (some (false,b,a,()))) (some (false,b,a,()))) (some (true,b,a,()))))))) λ(k,i,g,_)=>Option.bind (α:=jF) (cond k ((vq (1,())).bind λ(p,_)=>(q6 (g,p,())).bind λ(q,_)=>some (i,q,())) (some (i,g,()))) λ(j,h,_)=>Option.bind (α:=jF) (cond c.1 ((q7 (h,())).bind λ(r,_)=>some (j,r,())) (some (j,h,()))) λ(_,m,_)=>some (m,())
def vp:eJ->Option eJ:=λ(a,_)=>(s8 (a.2.1,())).bind λ(b,_)=>(kc (false,b,())).bind λ(c,_)=>some (c,())
def A3:eJ->Option cZ:=λ(c,_)=>(g1 (c.2.1,())).bind λ(d,_)=>(bif decide (ay d>2) then some (0,false,()) else((loop (σ:=l8) (ρ:=bq) (λ(e,b,_)=>cond (decide (b<ay d)) ((aC d b).bind λj=>(gN IntKind.u64 (aJ j) (ar (32*b))).bind λk=>some (.inl (eL IntKind.u64 e k,aY b,()))) (some (.inr (e,())))) (0,0,())).bind λ(a,_)=>Option.bind (α:=Unit⊕cZ) (Option.bind (α:=eV) (cond (c.1==true) (cond (decide (a>0)==true) (some (decide (a<=9223372036854775808),())) (some (false,()))) (some (false,()))) λ(h,_)=>cond h (some (.inr (ar (ar (0-ar (aJ (a-1)))-1),true,()))) (Option.bind (α:=eV) (cond (decide (a<9223372036854775808)==true) (cond ((!c.1)==false) (some ((a==0),())) (some (true,()))) (some (false,()))) λ(i,_)=>cond i (some (.inr (ar a,true,()))) (some (.inl ())))) λf=>match f with
 |.inl _=>(some (0,false,()))
 |.inr g=>some g))
def s2:cZ->Option bq:=λ(a,b,_)=>(cond b (some (eL IntKind.u64 a 9223372036854775808,())) (some (a,())))
def AU:c3->Option bq:=λ(a,b,_)=>Option.bind (α:=Unit⊕bq) (Option.bind (α:=eV) (cond ((b==3)==false) (cond ((b==1)==true) (cond ((!a)==false) (cond ((b==2)==true) (some (a,())) (some (false,()))) (some (true,()))) (cond ((b==2)==true) (some (a,())) (some (false,())))) (some (true,()))) λ(f,_)=>cond f ((s2 (9218868437227405311,a,())).bind λ(aR,_)=>some (.inr (aR,()))) (some (.inl ()))) λc=>match c with
 |.inl _=>((s2 (9218868437227405312,a,())).bind λ(e,_)=>some (e,()))
 |.inr d=>some d
def xA:(qR×Int×Unit)->Option bq:=λ(b,d,_)=>(AM (b,())).bind λ(a,_)=>(AN (b,(if(-1074:Int)>ar (a-52) then(-1074:Int) else ar (a-52)),d,())).bind λ(aR,_)=>(vp (aR,())).bind λ(j,_)=>(A3 (j,())).bind λ(f,_,_)=>Option.bind (α:=l8) (cond (aJ f==9007199254740992) (some (aY (if(-1074:Int)>ar (a-52) then(-1074:Int) else ar (a-52)),4503599627370496,())) (some ((if(-1074:Int)>ar (a-52) then(-1074:Int) else ar (a-52)),aJ f,()))) λ(e,c,_)=>(cond (decide (c<4503599627370496)) ((s2 (c,b.1,())).bind λ(g,_)=>some (g,())) (cond (decide (ar (e+1075)>=2047)) ((AU (b.1,d,())).bind λ(h,_)=>some (h,())) ((gN IntKind.u64 (aJ (ar (e+1075))) 52).bind λk=>(s2 (eL IntKind.u64 k (aJ (c-4503599627370496)),b.1,())).bind λ(i,_)=>some (i,()))))
def xz:(bX×Int×Unit)->Option bq:=λ(c,e,_)=>(q4 (c,())).bind λ(a,_)=>Option.bind (α:=eW⊕bq) (Option.bind (α:=(Bool×bX×Unit)) (cond (a.1==false) ((pQ (a,())).bind λ(aR,_)=>some (decide (aR<0),a,())) (some (true,a,()))) λ(k,b,_)=>cond k (some (.inr (9221120237041090560,()))) ((pQ (b,())).bind λ(i,_)=>cond (i==0) (some (.inr (0,()))) (some (.inl (b,()))))) λf=>match f with
 |.inl (d,_)=>((AO (d,56,())).bind λ(j,_)=>(xA (j,e,())).bind λ(h,_)=>some (h,()))
 |.inr g=>some g
def xx:bq->Option bq:=λ(c,_)=>(vk (c,())).bind λ(a,b,_)=>Option.bind (α:=eV) (cond ((a==2047)==true) (some ((b !=0),())) (some (false,()))) λ(d,_)=>(cond d (some (3,())) (cond (a==2047) (some (2,())) (cond ((a==0)==true) (cond (b==0) (some (0,())) (some (1,()))) (some (1,())))))
def A2:jF->Option (dc×dc×Int×Unit):=λ(a,d,_)=>(g1 (d.2.1,())).bind λ(b,_)=>(cond (ay b==0) (some ((false,(([]:aN),())),(false,(([]:aN),())),8,())) ((g1 (a.2.1,())).bind λ(aR,_)=>(xK (aR,b,())).bind λ(f,c,_)=>Option.bind (α:=(aN×aN×dc×dc×Unit)) (Option.bind (α:=(Bool×dc×dc×Unit)) (cond (a.1==true) (some (decide (ay c>0),(false,([],())),(false,([],())),())) (some (false,(false,([],())),(false,([],())),()))) λ(n,e,g,_)=>cond n ((s4 (f,[1],())).bind λ(j,_)=>(vu (b,c,())).bind λ(k,_)=>some (j,k,e,g,())) (some (f,c,e,g,()))) λ(h,i,_,_,_)=>(kc ((!(a.1==d.1)),h,())).bind λ(l,_)=>(kc (false,i,())).bind λ(m,_)=>some (l,m,0,())))
def AL:(bX×bX×Int×Unit)->Option (qR×Unit):=λ(a,b,c,_)=>(pS (b.2.1,())).bind λ(aR,_)=>(pS (a.2.1,())).bind λ(d,_)=>(vp (a.2.1,())).bind λ(g,_)=>(me (g,(if(ar (ar (ar (c+3)+aR)-d))>0 then ar (ar (ar (c+3)+aR)-d) else 0),())).bind λ(h,_)=>(vp (b.2.1,())).bind λ(i,_)=>(A2 (h,i,())).bind λ(j,e,_,_)=>(nH (e,())).bind λ(f,_)=>some (((!(a.2.1.1==b.2.1.1)),(j,(ar (ar (a.2.2.1-(if(ar (ar (ar (c+3)+aR)-d))>0 then ar (ar (ar (c+3)+aR)-d) else 0))-b.2.2.1),((f !=0),())))),())
def xy:(bX×bX×Int×Unit)->Option bq:=λ(c,f,h,_)=>(q4 (c,())).bind λ(aR,_)=>(q4 (f,())).bind λ(a,_)=>Option.bind (α:=pI⊕bq) (Option.bind (α:=(Bool×bX×bX×Unit)) (cond (aR.1==false) (cond (a.1==false) ((pQ (a,())).bind λ(n,_)=>some ((n==0),aR,a,())) (some (true,aR,a,()))) (some (true,aR,a,()))) λ(o,b,g,_)=>cond o (some (.inr (9221120237041090560,()))) ((pQ (b,())).bind λ(k,_)=>cond (k==0) (some (.inr (0,()))) (some (.inl (b,g,()))))) λi=>match i with
 |.inl (d,e,_)=>((AL (d,e,56,())).bind λ(l,_)=>(xA (l,h,())).bind λ(m,_)=>some (m,()))
 |.inr j=>some j
def te:bq->Option eV:=λ(a,_)=>(dk IntKind.u64 a 52).bind λb=>some ((dr IntKind.u64 b 2047 !=2047),())
def BI:bq->Option eV:=λ(a,_)=>some ((dr IntKind.u64 a 9223372036854775808 !=0),())
def rc:bq->Option eW:=λ(a,_)=>(te (a,())).bind λ(f,_)=>(cond (!f) ((tc ()).bind λ(g,_)=>some (g,())) ((dk IntKind.u64 a 52).bind λc=>Option.bind (α:=(Int×Int×bX×Unit)) (cond (decide (ar (dr IntKind.u64 c 2047)>0)) (some (eL IntKind.u64 (dr IntKind.u64 a 4503599627370495) 4503599627370496,ar (ar (dr IntKind.u64 c 2047)-1075),(false,((false,([],())),((0:Int),()))),())) (some (dr IntKind.u64 a 4503599627370495,(-1074:Int),(false,((false,([],())),((0:Int),()))),()))) λ(b,d,_,_)=>(BI (a,())).bind λ(h,_)=>(dk IntKind.u64 b 32).bind λi=>(nI ((h,([b3 b,b3 i],())),d,())).bind λ(e,_)=>some (e,())))
def BB:eW->Option eW:=λ(b,_)=>(mf (b,())).bind λ(a,_)=>(cond a.1 (some (a,())) ((pU (a.2.1,())).bind λ(c,_)=>(nI (c,a.2.2.1,())).bind λ(aR,_)=>some (aR,())))
def x2:(gF×Unit)->Option eW:=λ(h,_)=>(loop (σ:=(Int×Int×bX×dc×Unit)) (ρ:=((Int×bX×dc×Unit)⊕eW)) (λ(b,e,c,d,_)=>bif decide (e<ay h) then(Option.bind (α:=(Int×bX×dc×Unit)⊕((Int×Int×bX×dc×Unit)⊕((Int×bX×dc×Unit)⊕eW))) ((aC h e).bind λv=>(mf (v,())).bind λ(a,_)=>cond a.1 ((tc ()).bind λ(q,_)=>some (.inr (.inr (.inr (q,()))))) ((ke (a.2.1,())).bind λ(r,_)=>cond (r==0) (some (.inl (b,c,d,()))) ((ke (d,())).bind λ(k,_)=>cond (k==0) (some (.inl (a.2.2.1,c,a.2.1,()))) (cond (decide (a.2.2.1>=b)) ((k1 (a.2.1,ar (a.2.2.1-b),())).bind λ(l,_)=>(oO (d,l,())).bind λ(m,_)=>some (.inl (b,c,m,()))) ((k1 (d,ar (b-a.2.2.1),())).bind λ(n,_)=>(oO (n,a.2.1,())).bind λ(o,_)=>some (.inl (a.2.2.1,c,o,()))))))) λf=>match f with
 |.inl (i,s,t,_)=>(some (.inl (i,aY e,s,t,())))
 |.inr g=>some g) else some (.inr (.inl (b,c,d,())))) (0,0,(false,((false,([],())),((0:Int),()))),(false,(([]:aN),())),())).bind λf=>match f with
 |.inl (j,_,u,_)=>((nI (u,j,())).bind λ(p,_)=>some (p,()))
 |.inr g=>some g
def BA:iD->Option eX:=λ(d,b,_)=>(dV (ar (ay d+ay b)) (ar (ay d+ay b))).bind λl=>(loop (σ:=hh) (ρ:=eX) (λ(a,g,_)=>cond (decide (a<ay d)) ((loop (σ:=oC) (ρ:=hh) (λ(e,c,f,_)=>cond (decide (c<ay b)) ((aC d a).bind λj=>(aC b c).bind λh=>rd f (ar (a+c)) λi=>wr f (ar (a+c)) (b3 (aJ (aJ (e+aJ (aJ j*aJ h))+aJ i))) λp=>(dk IntKind.u64 (aJ (aJ (e+aJ (aJ j*aJ h))+aJ i)) 32).bind λo=>some (.inl (o,aY c,p,()))) (some (.inr (e,f,())))) (0,0,g,())).bind λ(k,m,_)=>wr m (ar (a+ay b)) (b3 k) λq=>some (.inl (aY a,q,()))) (some (.inr (g,())))) (0,List.replicate l (0:Int),())).bind λ(n,_)=>some (n,())
def xV:jF->Option eJ:=λ(a,b,_)=>(k2 (a.2.1,())).bind λ(c,_)=>(k2 (b.2.1,())).bind λ(aR,_)=>(BA (c,aR,())).bind λ(d,_)=>(kH ((!(a.1==b.1)),d,())).bind λ(e,_)=>some (e,())
def BD:pI->Option eW:=λ(d,f,_)=>(mf (d,())).bind λ(a,_)=>(mf (f,())).bind λ(aR,_)=>Option.bind (α:=(bX×bX×bX×Unit)⊕eW) (Option.bind (α:=(Bool×bX×bX×bX×Unit)) (cond (a.1==false) (some (aR.1,a,aR,(false,((false,([],())),((0:Int),()))),())) (some (true,a,aR,(false,((false,([],())),((0:Int),()))),()))) λ(m,e,g,n,_)=>cond m ((tc ()).bind λ(l,_)=>some (.inr (l,()))) (some (.inl (e,g,n,())))) λh=>match h with
 |.inl (b,c,_,_)=>((xV (b.2.1,c.2.1,())).bind λ(j,_)=>(nI (j,ar (b.2.2.1+c.2.2.1),())).bind λ(k,_)=>some (k,()))
 |.inr i=>some i
def x1:eW->Option eW:=λ(b,_)=>(mf (b,())).bind λ(a,_)=>(cond a.1 (some (a,())) ((xW (a.2.1,())).bind λ(c,_)=>(nI (c,a.2.2.1,())).bind λ(aR,_)=>some (aR,())))
def xZ:(aN×aN×Int×Int×Unit)->Option (aN×Bool×Unit):=λ(w,b,i,r,_)=>(dV (aY (ay b)) (aY (ay b))).bind λs=>(loop (σ:=(Int×Int×Int×aN×aN×Unit)) (ρ:=(Int×aN×aN×Unit)) (λ(d,h,a,g,f,_)=>cond (decide (a<=ay b)) (Option.bind (α:=(Int×Int×aN×aN×Unit)) (Option.bind (α:=(Int×aN×aN×Unit)) (cond (decide (a<ay b)) ((aC b a).bind λz=>some (aJ (h+aJ (r*aJ z)),g,f,())) (some (h,g,f,()))) λ(e,k,t,_)=>rd k (ar (a+i)) λn=>(dk IntKind.u64 e 32).bind λA=>wr t a (b3 (aJ (aJ (aJ n-d)-dr IntKind.u64 e 4294967295))) λD=>(dk IntKind.u64 (aJ (aJ (aJ n-d)-dr IntKind.u64 e 4294967295)) 63).bind λB=>some (B,A,k,D,())) λ(o,q,x,u,_)=>some (.inl (o,q,aY a,x,u,()))) (some (.inr (d,g,f,())))) (0,0,0,w,List.replicate s (0:Int),())).bind λ(p,l,v,_)=>
 (cond (p !=0) (some (l,false,())) ((loop (σ:=(Int×aN×aN×Unit)) (ρ:=eX) (λ(c,m,j,_)=>cond (decide (c<=ay b)) (rd j c λC=>wr m (ar (c+i)) C λE=>some (.inl (aY c,E,j,()))) (some (.inr (m,())))) (0,l,v,())).bind λ(y,_)=>some (y,true,())))
def Bz:iD->Option iD:=λ(b,a,_)=>(xX (b,a,())).bind λ(u,_)=>(bif decide (u<0) then some ([],b,()) else(aC a (ar (ay a-1))).bind λE=>(s6 (E,())).bind λ(i,_)=>(vC (b,i,())).bind λ(e,_)=>(vC (a,i,())).bind λ(f,_)=>((some (0)).bind λj=>(fV (ay a)).bind λk=>(gd j k f.length).bind λ_=>(uc f.length).map λ_=>(j,k)).bind λd=>Option.bind (α:=iD) (cond (ay e==ay b) ((bN (e.length+([0]).length)).bind λ_=>some (((f.take d.2).drop d.1),(e++[0]),())) (some (((f.take d.2).drop d.1),e,()))) λ(o,A,_)=>(dV (aY (ar (ay b-ay a))) (aY (ar (ay b-ay a)))).bind λr=>(loop (σ:=(Int×aN×aN×Unit)) (ρ:=iD) (λ(c,g,m,_)=>bif decide (c>=0) then rd g (ar (c+ay a)) λF=>(gN IntKind.u64 (aJ F) 32).bind λG=>rd g (ar (ar (c+ay a)-1)) λH=>
 (aC o (ar (ay a-1))).bind λI=>(gL IntKind.u64 (eL IntKind.u64 G (aJ H)) (aJ I)).bind λp=>(loop (σ:=(Int×aN×aN×Unit)) (ρ:=(Int×aN×aN×Unit)) (λ(h,B,n,_)=>(xZ (B,o,c,h,())).bind λ(l,v,_)=>cond (!v) (some (.inl (aJ (h-1),l,n,()))) (some (.inr (h,l,n,())))) ((if 4294967295<p then 4294967295 else p),g,m,())).bind λ(q,C,s,_)=>wr s c (b3 q) λJ=>some (.inl (ar (c-1),C,J,())) else some (.inr (g,m,()))) (ar (ay b-ay a),A,List.replicate r (0:Int),())).bind λ(D,t,_)=>(k2 (D,())).bind λ(w,_)=>(vD (w,i,())).bind λ(x,_,_)=>(k2 (t,())).bind λ(y,_)=>(k2 (x,())).bind λ(z,_)=>some (y,z,()))
def xT:jF->Option jF:=λ(e,f,_)=>(oP (e,())).bind λ(a,_)=>(oP (f,())).bind λ(aR,_)=>(Bz (a.2.1,aR.2.1,())).bind λ(m,n,_)=>(kH ((!(a.1==aR.1)),m,())).bind λ(b,_)=>(kH (a.1,n,())).bind λ(c,_)=>Option.bind (α:=(dc×dc×dc×dc×Unit)) ((ke (c,())).bind λ(o,_)=>cond (decide (o<0)) ((pU (aR,())).bind λ(h,_)=>(oO (c,h,())).bind λ(d,_)=>cond aR.1 ((pW (1,())).bind λ(i,_)=>(oO (b,i,())).bind λ(j,_)=>some ((false,([],())),(false,([],())),j,d,())) ((pW (1,())).bind λ(k,_)=>(vB (b,k,())).bind λ(l,_)=>some ((false,([],())),(false,([],())),l,d,()))) (some ((false,([],())),(false,([],())),b,c,()))) λ(_,_,g,p,_)=>some (g,p,())
def xS:jF->Option bq:=λ(a,b,_)=>(vB (a,b,())).bind λ(c,_)=>(ke (c,())).bind λ(aR,_)=>some (aR,())
def Bx:eJ->Option eJ:=λ(b,_)=>(ke (b,())).bind λ(f,_)=>(cond (f==0) (some ((false,(([]:aN),())),())) ((pW (1,())).bind λ(g,_)=>(pV (b,())).bind λ(aR,_)=>(gL IntKind.i64 (aY aR) 2).bind λk=>(k1 (g,k,())).bind λ(h,_)=>(loop (σ:=jF) (ρ:=eJ) (λ(j,a,_)=>(xT (b,a,())).bind λ(i,_,_)=>(oO (a,i,())).bind λ(d,_)=>(k1 (d,(-1:Int),())).bind λ(c,_)=>(xS (c,a,())).bind λ(e,_)=>cond (decide (e>=0)) (some (.inr (a,()))) (some (.inl (j,c,())))) ((false,([],())),h,())).bind some))
def BF:(dc×Int×Int×Unit)->Option (dc×Int×Bool×Unit):=λ(c,d,a,_)=>(pV (c,())).bind λ(aR,_)=>Option.bind (α:=(Int×dc×Unit)) ((gM (ar (d-(if 0>ar (ar (ar (2*a)+6)-aR) then 0 else ar (ar (ar (2*a)+6)-aR)))) 2).bind λj=>cond (j !=0) (some (aY (if 0>ar (ar (ar (2*a)+6)-aR) then 0 else ar (ar (ar (2*a)+6)-aR)),(false,([],())),())) (some ((if 0>ar (ar (ar (2*a)+6)-aR) then 0 else ar (ar (ar (2*a)+6)-aR)),(false,([],())),()))) λ(e,_,_)=>(k1 (c,e,())).bind λ(f,_)=>(Bx (f,())).bind λ(b,_)=>(gL IntKind.i64 (ar (d-e)) 2).bind λi=>(xV (b,b,())).bind λ(g,_)=>(xS (g,f,())).bind λ(h,_)=>some (b,i,(h !=0),())
def BK:(bX×Int×Unit)->Option bq:=λ(c,d,_)=>(mf (c,())).bind λ(b,_)=>Option.bind (α:=eW⊕bq) (cond (b.1==false) ((ke (b.2.1,())).bind λ(aR,_)=>cond (decide (aR<0)) (some (.inr (9221120237041090560,()))) (some (.inl (b,())))) (some (.inr (9221120237041090560,())))) λe=>match e with
 |.inl (a,_)=>((ke (a.2.1,())).bind λ(h,_)=>cond (h==0) (some (0,())) ((BF (a.2.1,a.2.2.1,60,())).bind λ(i,j,k,_)=>(vF (false,i,j,k,d,())).bind λ(g,_)=>some (g,())))
 |.inr f=>some f
def BG:eW->Option bq:=λ(b,_)=>(mf (b,())).bind λ(a,_)=>(cond a.1 (some (0,())) ((ke (a.2.1,())).bind λ(c,_)=>some (c,())))
def BE:(dc×dc×Int×Unit)->Option (dc×Int×Bool×Unit):=λ(c,d,a,_)=>(pV (d,())).bind λ(aR,_)=>(pV (c,())).bind λ(b,_)=>(k1 (c,(if 0>ar (ar (ar (a+2)+aR)-b) then 0 else ar (ar (ar (a+2)+aR)-b)),())).bind λ(e,_)=>(xT (e,d,())).bind λ(f,g,_)=>(ke (g,())).bind λ(h,_)=>some (f,ar (0-(if 0>ar (ar (ar (a+2)+aR)-b) then 0 else ar (ar (ar (a+2)+aR)-b))),(h !=0),())
def BJ:(bX×bX×Int×Unit)->Option bq:=λ(d,e,f,_)=>(mf (d,())).bind λ(aR,_)=>(mf (e,())).bind λ(c,_)=>Option.bind (α:=pI⊕bq) (cond (aR.1==false) (cond (c.1==false) ((ke (c.2.1,())).bind λ(o,_)=>cond (o==0) (some (.inr (9221120237041090560,()))) (some (.inl (aR,c,())))) (some (.inr (9221120237041090560,())))) (some (.inr (9221120237041090560,())))) λg=>match g with
 |.inl (a,b,_)=>((ke (a.2.1,())).bind λ(p,_)=>cond (p==0) (some (0,())) ((pU (a.2.1,())).bind λ(i,_)=>(pU (b.2.1,())).bind λ(j,_)=>(BE (i,j,60,())).bind λ(k,l,m,_)=>(vF ((!(a.2.1.1==b.2.1.1)),k,ar (ar (a.2.2.1-b.2.2.1)+l),m,f,())).bind λ(n,_)=>some (n,())))
 |.inr h=>some h
def AP:pI->Option (dc×dc×Int×Unit):=λ(a,b,_)=>(me (a.2.1,ar (a.2.2.1-(if b.2.2.1<a.2.2.1 then b.2.2.1 else a.2.2.1)),())).bind λ(c,_)=>(me (b.2.1,ar (b.2.2.1-(if b.2.2.1<a.2.2.1 then b.2.2.1 else a.2.2.1)),())).bind λ(aR,_)=>some (c,aR,(if b.2.2.1<a.2.2.1 then b.2.2.1 else a.2.2.1),())
def AK:pI->Option eW:=λ(a,b,_)=>(xw (a,b,())).bind λ(e,aR,f,_)=>(cond (!f) ((vj ()).bind λ(g,_)=>some (g,())) ((AP (e,aR,())).bind λ(h,i,j,_)=>(q6 (h,i,())).bind λ(c,_)=>(sZ (c,j,())).bind λ(d,_)=>some (d,())))
def s1:eW->Option eV:=λ(a,_)=>(mT (a,())).bind λ(_,b,_)=>some (b,())
def Bh:cW->Option eV:=λ(a,c,b,_)=>(cond (decide (a>=c)==true) (some (decide (a<=b),())) (some (false,())))
def Bn:eX->Option eV:=λ(b,_)=>(loop (σ:=bq) (ρ:=l7) (λ(a,_)=>cond (decide (a>0)) ((aC b a).bind λf=>(aC b (ar (a-1))).bind λg=>(sY (f,g,())).bind λ(e,_)=>cond e (some (.inr (.inr (false,())))) (some (.inl (ar (a-1),())))) (some (.inr (.inl ())))) (ar (ay b-1),())).bind λc=>match c with
 |.inl _=>(some (true,()))
 |.inr d=>some d
def Be:lC->Option eV:=λ(a,_)=>Option.bind (α:=Unit⊕eV) (cond ((ay a.2.2.1 !=aY a.2.1)==false) ((aC a.2.2.1 0).bind λm=>cond ((m !=0)==false) ((Bn (a.2.2.1,())).bind λ(l,_)=>cond ((!l)==false) ((aC a.2.2.1 a.2.1).bind λn=>cond ((n !=ay a.2.2.2.1)==false) (cond (ay a.2.2.2.1 !=ay a.2.2.2.2.1) (some (.inr (false,()))) (some (.inl ()))) (some (.inr (false,())))) (some (.inr (false,())))) (some (.inr (false,())))) (some (.inr (false,())))) λb=>match b with
 |.inl _=>((loop (σ:=bq) (ρ:=l7) (λ(e,_)=>bif decide (e<a.2.1) then((aC a.2.2.1 e).bind λo=>(aC a.2.2.1 (aY e)).bind λp=>((fV o).bind λh=>(fV p).bind λi=>(gd h i (a.2.2.2.1).length).map λ_=>(h,i)).bind λd=>(loop (σ:=l8) (ρ:=(Unit⊕(bq⊕l7))) (λ(j,f,_)=>bif decide (f<ay (((a.2.2.2.1).take d.2).drop d.1)) then(Option.bind (α:=bq⊕(l8⊕(Unit⊕(bq⊕l7)))) ((aC (((a.2.2.2.1).take d.2).drop d.1) f).bind λg=>Option.bind (α:=Unit⊕(bq⊕(l8⊕(Unit⊕(bq⊕l7))))) (cond (decide (g<=j)==false) (cond (decide (g>=a.1)) (some (.inr (.inr (.inr (.inr (.inr (.inr (false,())))))))) (some (.inl ()))) (some (.inr (.inr (.inr (.inr (.inr (.inr (false,()))))))))) λb=>match b with
 |.inl _=>(some (.inl (g,())))
 |.inr c=>some c) λb=>match b with
 |.inl (k,_)=>(some (.inl (k,aY f,())))
 |.inr c=>some c) else some (.inr (.inl ()))) ((-1:Int),0,())).bind λb=>match b with
 |.inl _=>(some (.inl (aY e,())))
 |.inr c=>some c) else some (.inr (.inl ()))) (0,())).bind λb=>match b with
 |.inl _=>(some (true,()))
 |.inr c=>some c)
 |.inr c=>some c
def EU:bq->Option eV:=λ(a,_)=>(q5 (a,())).bind λ(b,_)=>some ((!b),())
def EW:(aN×Unit×Unit)->Option bq:=λ(b,_,_)=>(loop (σ:=bq) (ρ:=lA) (λ(a,_)=>cond (decide (a<ay b)) ((aC b a).bind λf=>(EU (f,())).bind λ(e,_)=>cond e (some (.inr (.inr (a,())))) (some (.inl (aY a,())))) (some (.inr (.inl ())))) (0,())).bind λc=>match c with
 |.inl _=>(some ((-1:Int),()))
 |.inr d=>some d
def Bj:(aN×Unit×Unit)->Option eV:=λ(b,_,_)=>(EW (b,(),())).bind λ(a,_)=>some (decide (a>=0),())
def q8:lC->Option bq:=λ(a,_)=>Option.bind (α:=eV) ((Bh (a.1,0,200,())).bind λ(b,_)=>cond ((!b)==false) ((Bh (a.2.1,0,200,())).bind λ(c,_)=>cond ((!c)==false) (some (decide (ay a.2.2.2.1>10000),())) (some (true,()))) (some (true,()))) λ(f,_)=>(cond f (some (6,())) ((Be (a,())).bind λ(d,_)=>cond (!d) (some (1,())) ((Bj (a.2.2.2.2.1,(),())).bind λ(e,_)=>cond e (some (4,())) (some (0,())))))
def B1:lB->Option (aN×Bool×Unit):=λ(h,a,_)=>(bif ay h !=a then some ([],false,()) else((dV a a).bind λi=>(dV a a).bind λj=>(loop (σ:=(Int×aN×fw×Unit)) (ρ:=(eX⊕(aN×Bool×Unit))) (λ(f,e,g,_)=>bif decide (f<ay h) then(Option.bind (α:=(aN×fw×Unit)⊕((Int×aN×fw×Unit)⊕(eX⊕(aN×Bool×Unit)))) ((aC h f).bind λd=>Option.bind (α:=(aN×fw×Unit)⊕((aN×fw×Unit)⊕((Int×aN×fw×Unit)⊕(eX⊕(aN×Bool×Unit))))) (Option.bind (α:=(Bool×aN×fw×Unit)) (cond (decide (d<0)==false) (cond (decide (d>=a)==false) (rd g d λs=>some (s,e,g,())) (some (true,e,g,()))) (some (true,e,g,()))) λ(o,k,p,_)=>cond o (some (.inr (.inr (.inr (.inr ([],false,())))))) (some (.inl (k,p,())))) λb=>match b with
 |.inl (l,q,_)=>(wr l d f λt=>wr q d true λu=>some (.inl (t,u,())))
 |.inr c=>some c) λb=>match b with
 |.inl (m,r,_)=>(some (.inl (aY f,m,r,())))
 |.inr c=>some c) else some (.inr (.inl (e,())))) (0,List.replicate i (0:Int),List.replicate j false,())).bind λb=>match b with
 |.inl (n,_)=>(some (n,true,()))
 |.inr c=>some c))
def vx:lC->Option jj:=λ(b,_)=>(loop (σ:=pJ) (ρ:=jj) (λ(a,e,_)=>cond (decide (a<b.2.1)) ((aC b.2.2.1 a).bind λj=>(loop (σ:=pJ) (ρ:=jj) (λ(c,d,_)=>(aC b.2.2.1 (aY a)).bind λk=>cond (decide (c<k)) ((aC b.2.2.2.1 c).bind λf=>(aC b.2.2.2.2.1 c).bind λg=>(bN (d.length+([(f,(a,(g,())))]).length)).bind λ_=>some (.inl (aY c,(d++[(f,(a,(g,())))]),()))) (some (.inr (d,())))) (j,e,())).bind λ(h,_)=>some (.inl (aY a,h,()))) (some (.inr (e,())))) (0,[],())).bind λ(i,_)=>some (i,())
def EV:jj->Option jj:=λ(a,_)=>m7 a.length (some ([],())) ((bN (([]:ka).length+a.length)).bind λ_=>some (([]++a),()))
def Bg:((Int×(Int×bq))×(Int×(Int×bq))×Unit)->Option bq:=λ(a,b,_)=>(vg (a.2.1,b.2.1,())).bind λ(c,_)=>(vg (a.1,b.1,())).bind λ(aR,_)=>(AC ([c,aR],())).bind λ(d,_)=>some (d,())
def xN:(ka×Int×Int×Unit×Unit)->Option jj:=λ(h,e,g,_,_)=>(loop (σ:=pJ) (ρ:=jj) (λ(d,f,_)=>bif decide (d<g) then(loop (σ:=pJ) (ρ:=jj) (λ(a,b,_)=>Option.bind (α:=jj⊕(pJ⊕jj)) (cond (decide (a>e)==true) (rd b a λn=>rd b (ar (a-1)) λo=>(Bg (n,o,())).bind λ(m,_)=>cond (decide (m<0)) (some (.inl (b,()))) (some (.inr (.inr (b,()))))) (some (.inr (.inr (b,()))))) λk=>match k with
 |.inl (c,_)=>(rd c (ar (a-1)) λp=>rd c a λq=>wr c a p λr=>wr r (ar (a-1)) q λs=>some (.inl (ar (a-1),s,())))
 |.inr l=>some l) (d,f,())).bind λ(i,_)=>some (.inl (aY d,i,())) else some (.inr (f,()))) (aY e,h,())).bind λ(j,_)=>some (j,())
def E2:(ka×Int×Unit×Unit)->Option jj:=λ(g,b,_,_)=>(loop (σ:=Eh) (ρ:=pJ) (λ(c,a,d,_)=>cond (decide (a<=b)) ((xN (d,c,a,(),())).bind λ(l,_)=>some (.inl (a,ar (a+20),l,()))) (some (.inr (c,d,())))) (0,20,g,())).bind λ(e,j,_)=>(xN (j,e,b,(),())).bind λ(k,_)=>(loop (σ:=pJ) (ρ:=jj) (λ(f,h,_)=>cond (decide (f<b)) none (some (.inr (h,())))) (20,k,())).bind λ(i,_)=>some (i,())
def E1:(ka×Unit×Unit)->Option jj:=λ(a,_,_)=>(E2 (a,ay a,(),())).bind λ(b,_)=>some (b,())
def Bf:jj->Option jj:=λ(a,_)=>(EV (a,())).bind λ(c,_)=>(E1 (c,(),())).bind λ(b,_)=>some (b,())
def Bd:Eh->Option lC:=λ(s,e,o,_)=>(dV (aY e) (aY e)).bind λr=>(Bf (o,())).bind λ(i,_)=>(loop (σ:=(Int×bJ×bJ×ka×Unit)) (ρ:=(bJ×bJ×Unit)) (λ(f,k,a,l,_)=>bif decide (f<ay i) then rd l f λb=>(bN ((a.2.2.2.1).length+([b.1]).length)).bind λ_=>(bN ((a.2.2.2.2.1).length+([b.2.2.1]).length)).bind λ_=>(bh (((a.1,(a.2.1,(a.2.2.1,((a.2.2.2.1++[b.1]),a.2.2.2.2)))).1,((a.1,(a.2.1,(a.2.2.1,((a.2.2.2.1++[b.1]),a.2.2.2.2)))).2.1,((a.1,(a.2.1,(a.2.2.1,((a.2.2.2.1++[b.1]),a.2.2.2.2)))).2.2.1,((a.1,(a.2.1,(a.2.2.1,((a.2.2.2.1++[b.1]),a.2.2.2.2)))).2.2.2.1,(((a.1,(a.2.1,(a.2.2.1,((a.2.2.2.1++[b.1]),a.2.2.2.2)))).2.2.2.2.1++[b.2.2.1]),(a.1,(a.2.1,(a.2.2.1,((a.2.2.2.1++[b.1]),a.2.2.2.2)))).2.2.2.2.2))))).2.2.1).length (aY b.2.1)).bind λn=>(aZ ((a.1,(a.2.1,(a.2.2.1,((a.2.2.2.1++[b.1]),a.2.2.2.2)))).1,((a.1,(a.2.1,(a.2.2.1,((a.2.2.2.1++[b.1]),a.2.2.2.2)))).2.1,((a.1,(a.2.1,(a.2.2.1,((a.2.2.2.1++[b.1]),a.2.2.2.2)))).2.2.1,((a.1,(a.2.1,(a.2.2.1,((a.2.2.2.1++[b.1]),a.2.2.2.2)))).2.2.2.1,(((a.1,(a.2.1,(a.2.2.1,((a.2.2.2.1++[b.1]),a.2.2.2.2)))).2.2.2.2.1++[b.2.2.1]),(a.1,(a.2.1,(a.2.2.1,((a.2.2.2.1++[b.1]),a.2.2.2.2)))).2.2.2.2.2))))).2.2.1 n λm=>some m).bind λu=>
 (bh (((a.1,(a.2.1,(a.2.2.1,((a.2.2.2.1++[b.1]),a.2.2.2.2)))).1,((a.1,(a.2.1,(a.2.2.1,((a.2.2.2.1++[b.1]),a.2.2.2.2)))).2.1,((a.1,(a.2.1,(a.2.2.1,((a.2.2.2.1++[b.1]),a.2.2.2.2)))).2.2.1,((a.1,(a.2.1,(a.2.2.1,((a.2.2.2.1++[b.1]),a.2.2.2.2)))).2.2.2.1,(((a.1,(a.2.1,(a.2.2.1,((a.2.2.2.1++[b.1]),a.2.2.2.2)))).2.2.2.2.1++[b.2.2.1]),(a.1,(a.2.1,(a.2.2.1,((a.2.2.2.1++[b.1]),a.2.2.2.2)))).2.2.2.2.2))))).2.2.1).length (aY b.2.1)).bind λg=>((((aZ ((a.1,(a.2.1,(a.2.2.1,((a.2.2.2.1++[b.1]),a.2.2.2.2)))).1,((a.1,(a.2.1,(a.2.2.1,((a.2.2.2.1++[b.1]),a.2.2.2.2)))).2.1,((a.1,(a.2.1,(a.2.2.1,((a.2.2.2.1++[b.1]),a.2.2.2.2)))).2.2.1,((a.1,(a.2.1,(a.2.2.1,((a.2.2.2.1++[b.1]),a.2.2.2.2)))).2.2.2.1,(((a.1,(a.2.1,(a.2.2.1,((a.2.2.2.1++[b.1]),a.2.2.2.2)))).2.2.2.2.1++[b.2.2.1]),(a.1,(a.2.1,(a.2.2.1,((a.2.2.2.1++[b.1]),a.2.2.2.2)))).2.2.2.2.2))))).2.2.1 g λ_=>some ((((a.1,(a.2.1,(a.2.2.1,((a.2.2.2.1++[b.1]),a.2.2.2.2)))).1,((a.1,(a.2.1,(a.2.2.1,((a.2.2.2.1++[b.1]),a.2.2.2.2)))).2.1,((a.1,(a.2.1,(a.2.2.1,((a.2.2.2.1++[b.1]),a.2.2.2.2)))).2.2.1,((a.1,(a.2.1,(a.2.2.1,((a.2.2.2.1++[b.1]),a.2.2.2.2)))).2.2.2.1,(((a.1,(a.2.1,(a.2.2.1,((a.2.2.2.1++[b.1]),a.2.2.2.2)))).2.2.2.2.1++[b.2.2.1]),(a.1,(a.2.1,(a.2.2.1,((a.2.2.2.1++[b.1]),a.2.2.2.2)))).2.2.2.2.2))))).2.2.1).set g (aY u))).map λx=>(x,((a.1,(a.2.1,(a.2.2.1,((a.2.2.2.1++[b.1]),a.2.2.2.2)))).1,((a.1,(a.2.1,(a.2.2.1,((a.2.2.2.1++[b.1]),a.2.2.2.2)))).2.1,((a.1,(a.2.1,(a.2.2.1,((a.2.2.2.1++[b.1]),a.2.2.2.2)))).2.2.1,((a.1,(a.2.1,(a.2.2.1,((a.2.2.2.1++[b.1]),a.2.2.2.2)))).2.2.2.1,(((a.1,(a.2.1,(a.2.2.1,((a.2.2.2.1++[b.1]),a.2.2.2.2)))).2.2.2.2.1++[b.2.2.1]),(a.1,(a.2.1,(a.2.2.1,((a.2.2.2.1++[b.1]),a.2.2.2.2)))).2.2.2.2.2))))).2.2.2)).map λy=>(((a.1,(a.2.1,(a.2.2.1,((a.2.2.2.1++[b.1]),a.2.2.2.2)))).1,((a.1,(a.2.1,(a.2.2.1,((a.2.2.2.1++[b.1]),a.2.2.2.2)))).2.1,((a.1,(a.2.1,(a.2.2.1,((a.2.2.2.1++[b.1]),a.2.2.2.2)))).2.2.1,((a.1,(a.2.1,(a.2.2.1,((a.2.2.2.1++[b.1]),a.2.2.2.2)))).2.2.2.1,(((a.1,(a.2.1,(a.2.2.1,((a.2.2.2.1++[b.1]),a.2.2.2.2)))).2.2.2.2.1++[b.2.2.1]),(a.1,(a.2.1,(a.2.2.1,((a.2.2.2.1++[b.1]),a.2.2.2.2)))).2.2.2.2.2))))).2.1,y)).map λz=>(((a.1,(a.2.1,(a.2.2.1,((a.2.2.2.1++[b.1]),a.2.2.2.2)))).1,((a.1,(a.2.1,(a.2.2.1,((a.2.2.2.1++[b.1]),a.2.2.2.2)))).2.1,((a.1,(a.2.1,(a.2.2.1,((a.2.2.2.1++[b.1]),a.2.2.2.2)))).2.2.1,((a.1,(a.2.1,(a.2.2.1,((a.2.2.2.1++[b.1]),a.2.2.2.2)))).2.2.2.1,(((a.1,(a.2.1,(a.2.2.1,((a.2.2.2.1++[b.1]),a.2.2.2.2)))).2.2.2.2.1++[b.2.2.1]),(a.1,(a.2.1,(a.2.2.1,((a.2.2.2.1++[b.1]),a.2.2.2.2)))).2.2.2.2.2))))).1,z)).bind λA=>
 some (.inl (aY f,k,A,l,())) else some (.inr (k,a,()))) (0,((0:Int),((0:Int),([],([],([],()))))),(s,(e,(List.replicate r (0:Int),(([]:aN),(([]:aN),()))))),i,())).bind λ(t,p,_)=>(loop (σ:=(Int×bJ×bJ×Unit)) (ρ:=(bJ×bJ×Unit)) (λ(d,j,c,_)=>cond (decide (d<e)) (rd c.2.2.1 (aY d) λv=>rd c.2.2.1 d λw=>(bh (c.2.2.1).length (aY d)).bind λh=>((((aZ c.2.2.1 h λ_=>some ((c.2.2.1).set h (ar (v+w)))).map λB=>(B,c.2.2.2)).map λC=>(c.2.1,C)).map λD=>(c.1,D)).bind λE=>some (.inl (aY d,j,E,()))) (some (.inr (j,c,())))) (0,t,p,())).bind λ(_,q,_)=>some (q,())
def Bc:lC->Option (bJ×Int×Unit):=λ(a,_)=>(q8 (a,())).bind λ(aR,_)=>(cond (aR !=0) (some (((0:Int),((0:Int),(([]:aN),(([]:aN),(([]:aN),()))))),aR,())) ((vx (a,())).bind λ(g,_)=>(loop (σ:=(Int×bJ×ka×ka×Unit)) (ρ:=(bJ×ka×Unit)) (λ(d,e,b,f,_)=>cond (decide (d<ay g)) (Option.bind (α:=(bJ×ka×ka×Unit)) (rd f d λc=>cond (decide (c.1>=c.2.1)) ((bN (b.length+([c]).length)).bind λ_=>some (e,(b++[c]),f,())) (some (e,b,f,()))) λ(k,h,l,_)=>some (.inl (aY d,k,h,l,()))) (some (.inr (e,b,())))) (0,((0:Int),((0:Int),([],([],([],()))))),[],g,())).bind λ(_,i,_)=>(Bd (a.1,a.2.1,i,())).bind λ(j,_)=>some (j,0,())))
def Bb:lC->Option jj:=λ(a,_)=>(q8 (a,())).bind λ(aR,_)=>(cond (aR !=0) (some ([],())) ((vx (a,())).bind λ(b,_)=>some (b,())))
def xB:lC->Option ((List aN×Unit)×Int×Unit):=λ(a,_)=>(q8 (a,())).bind λ(c,_)=>(cond (c !=0) (some ((([]:List aN),()),c,())) (cond (a.1 !=a.2.1) (some ((([]:List aN),()),5,())) ((xC (a.2.1,())).bind λ(j,_)=>(Bb (a,())).bind λ(aR,_)=>(loop (σ:=(Int×(List aN×Unit)×List fw×ka×Unit)) (ρ:=((List aN×Unit)×List fw×Unit)) (λ(b,d,e,f,_)=>cond (decide (b<ay aR)) (rd f b λg=>(xF (e,g.1,g.2.1,())).bind λ(h,_)=>some (.inl (aY b,d,h,f,()))) (some (.inr (d,e,())))) (0,([],()),j,aR,())).bind λ(_,k,_)=>(xE (k,())).bind λ(i,_)=>some (i,0,()))))
def rj:(bJ×aN×Unit)->Option (Option l6×Int×Unit):=λ(a,q,_)=>(q8 (a,())).bind λ(r,_)=>(bif r !=0 then some (none,r,()) else bif a.1 !=a.2.1 then some (none,5,()) else(B1 (q,a.2.1,())).bind λ(s,E,_)=>bif !E then some (none,90,()) else(Bc (a,())).bind λ(F,_,_)=>(xB (F,())).bind λ(G,_,_)=>(xD (G,q,())).bind λ(t,_,_)=>(dV a.2.1 a.2.1).bind λp=>(loop (σ:=(Int×bJ×l6×Unit)) (ρ:=(bJ×l6×Unit)) (λ(j,k,c,_)=>cond (decide (j<ay ((a.2.1,(t,(List.replicate p (none:Option (List (Int×bX)×Nat)),()))).2.2.1))) ((bh (c.2.2.1).length j).bind λn=>((((aZ c.2.2.1 n λ_=>some ((c.2.2.1).set n (some ([],0)))).map λL=>(L,c.2.2.2)).map λM=>(c.2.1,M)).map λN=>(c.1,N)).bind λO=>some (.inl (aY j,k,O,()))) (some (.inr (k,c,())))) (0,a,(a.2.1,(t,(List.replicate p (none:Option (List (Int×bX)×Nat)),()))),())).bind λ(l,z,_)=>
 (loop (σ:=(Int×bJ×l6×Unit)) (ρ:=(l6×Unit)) (λ(e,m,o,_)=>bif decide (e<l.2.1) then(aC m.2.2.1 e).bind λI=>(loop (σ:=(Int×bJ×l6×Unit)) (ρ:=(bJ×l6×Unit)) (λ(f,d,b,_)=>(aC d.2.2.1 (aY e)).bind λJ=>cond (decide (f<J)) (Option.bind (α:=(bJ×l6×Unit)) ((aC d.2.2.2.1 f).bind λu=>cond (decide (u>=e)) ((aC s u).bind λg=>(aC s e).bind λh=>(bh (b.2.2.1).length (if h<g then h else g)).bind λi=>(aC d.2.2.2.2.1 f).bind λK=>(pR (K,())).bind λ(H,_)=>(aZ b.2.2.1 i λx=>some x).bind λC=>(qh C (if h>g then h else g) H).bind λD=>((((aZ b.2.2.1 i λ_=>some ((b.2.2.1).set i D)).map λP=>(P,b.2.2.2)).map λQ=>(b.2.1,Q)).map λR=>(b.1,R)).bind λS=>some (d,S,())) (some (d,b,()))) λ(v,A,_)=>some (.inl (aY f,v,A,()))) (some (.inr (d,b,())))) (I,m,o,())).bind λ(w,B,_)=>
 some (.inl (aY e,w,B,())) else some (.inr (o,()))) (0,l,z,())).bind λ(y,_)=>some (some y,0,()))
def xk:(Option l6×Unit)->Option (hj×Unit):=λ(d,_)=>d.bind λx=>(BZ (x.2.1,())).bind λ(e,_,_)=>d.bind λk=>(dV k.1 k.1).bind λt=>d.bind λl=>(dV l.1 l.1).bind λu=>d.bind λm=>(dV m.1 m.1).bind λs=>(loop (σ:=(Int×hj×Unit)) (ρ:=(hj×Unit)) (λ(b,h,_)=>bif decide (b<ay e) then(aC e b).bind λj=>(loop (σ:=(Int×hj×Unit)) (ρ:=(hj×Unit)) (λ(f,a,_)=>bif decide (f<ay j) then Option.bind (α:=(hj×Unit)) ((aC j f).bind λg=>bif decide (g>b) then(bh (a.2.2.2.1).length g).bind λi=>(aZ a.2.2.2.1 i λq=>some q).bind λv=>(bN (v.length+([b]).length)).bind λ_=>(bh (a.2.2.2.1).length g).bind λc=>bif Nat.beq i c&&true then(aZ a.2.2.2.1 c λr=>some r).bind λw=>(((((aZ a.2.2.2.1 c λ_=>some ((a.2.2.2.1).set c (w++[b]))).map λy=>(y,a.2.2.2.2)).map λz=>(a.2.2.1,z)).map λA=>(a.2.1,A)).map λB=>(a.1,B)).bind λC=>
 some (C,()) else none else some (a,())) λ(n,_)=>some (.inl (aY f,n,())) else some (.inr (a,()))) (0,h,())).bind λ(o,_)=>some (.inl (aY b,o,())) else some (.inr (h,()))) (0,(e,(List.replicate t [],(List.replicate u (none:Option (List (Int×bX)×Nat)),(List.replicate s [],())))),())).bind λ(p,_)=>some (p,())
def yi:(Option l6×Int×Int×Unit)->Option eW:=λ(c,a,b,_)=>c.bind λd=>(aC d.2.2.1 (if b<a then b else a)).bind λe=>some (((iZ (α:=bX) e (if b>a then b else a)).getD (false,((false,([],())),((0:Int),())))),())
def xm:(Option hj×Option l6×Int×Int×Unit)->Option eW:=λ(b,k,c,d,_)=>(yi (k,c,d,())).bind λ(n,_)=>b.bind λu=>(aC u.2.2.2.1 d).bind λj=>(loop (σ:=(Int×bX×gF×Unit)) (ρ:=(bX×gF×Unit)) (λ(e,f,a,_)=>cond (decide (e<ay j)) (Option.bind (α:=(bX×gF×Unit)) ((aC j e).bind λh=>b.bind λr=>(aC r.2.2.1 h).bind λi=>cond ((iZ (α:=bX) i c).isSome) (b.bind λs=>(aC s.2.2.1 h).bind λt=>(xo (((iZ (α:=bX) i c).getD (false,((false,([],())),((0:Int),())))),((iZ (α:=bX) t d).getD (false,((false,([],())),((0:Int),())))),())).bind λ(l,_)=>(xp (l,())).bind λ(g,_)=>(bN (a.length+([g]).length)).bind λ_=>some (f,(a++[g]),())) (some (f,a,()))) λ(o,p,_)=>some (.inl (aY e,o,p,()))) (some (.inr (f,a,())))) (0,(false,((false,([],())),((0:Int),()))),[n],())).bind λ(_,q,_)=>(xu (q,())).bind λ(m,_)=>
 some (m,())
def Az:(hj×Option l6×Int×Unit)->Option (hj×Int×Unit):=λ(c,u,b,_)=>(xm (some c,u,b,b,())).bind λ(aR,_)=>(pQ (aR,())).bind λ(M,_)=>(bif decide (M<=0) then some (c,231,()) else(xz (aR,0,())).bind λ(h,_)=>(xx (h,())).bind λ(N,_)=>bif N==0 then some (c,231,()) else(pR (h,())).bind λ(O,_)=>(qh (some ([],0)) b O).bind λE=>(bh (c.2.1).length b).bind λp=>(((aZ c.2.1 p λ_=>some ((c.2.1).set p [h])).map λR=>(R,c.2.2)).map λS=>(c.1,S)).bind λe=>(bh (e.2.2.1).length b).bind λq=>((((aZ e.2.2.1 q λ_=>some ((e.2.2.1).set q E)).map λT=>(T,e.2.2.2)).map λU=>(e.2.1,U)).map λV=>(e.1,V)).bind λo=>(q5 (h,())).bind λ(H,_)=>bif !H then some (o,233,()) else((aC o.1 b).bind λl=>((fV 1).bind λs=>(some l.length).bind λt=>(gd s t l.length).map λ_=>(s,t)).bind λj=>
 (loop (σ:=(Int×hj×Unit)) (ρ:=((hj×Unit)⊕(hj×Int×Unit))) (λ(n,a,_)=>bif decide (n<ay ((l.take j.2).drop j.1)) then(aC ((l.take j.2).drop j.1) n).bind λm=>(xm (some a,u,m,b,())).bind λ(I,_)=>(pR (h,())).bind λ(J,_)=>(xy (I,J,0,())).bind λ(k,_)=>(q5 (k,())).bind λ(K,_)=>bif !K then some (.inr (.inr (a,233,()))) else(bh (a.2.2.1).length b).bind λd=>(bh (a.2.1).length b).bind λr=>(aZ a.2.1 r λx=>some x).bind λP=>(bN (P.length+([k]).length)).bind λ_=>(pR (k,())).bind λ(L,_)=>(bh (a.2.1).length b).bind λi=>bif Nat.beq r i&&true then(aZ a.2.1 i λy=>some y).bind λQ=>(((aZ a.2.1 i λ_=>some ((a.2.1).set i (Q++[k]))).map λW=>(W,a.2.2)).map λX=>(a.1,X)).bind λf=>(aZ f.2.2.1 d λz=>some z).bind λv=>(qh v m ((iZ (α:=bX) v m).getD (false,((false,([],())),((0:Int),()))))).bind λC=>
 ((((aZ f.2.2.1 d λ_=>some ((f.2.2.1).set d C)).map λY=>(Y,f.2.2.2)).map λZ=>(f.2.1,Z)).map λab=>(f.1,ab)).bind λg=>cond (Nat.beq d d&&true) ((aZ g.2.2.1 d λA=>some A).bind λB=>(qh B m L).bind λD=>((((aZ g.2.2.1 d λ_=>some ((g.2.2.1).set d D)).map λad=>(ad,g.2.2.2)).map λam=>(g.2.1,am)).map λan=>(g.1,an)).bind λap=>some (.inl (aY n,ap,()))) none else none else some (.inr (.inl (a,())))) (0,o,())).bind λF=>match F with
 |.inl (w,_)=>(some (w,0,()))
 |.inr G=>some G))
def Bi:eX->Option eX:=λ(a,_)=>m7 a.length (some ([],())) ((bN (([]:aN).length+a.length)).bind λ_=>some (([]++a),()))
def xl:(Option hj×aN×Unit)->Option (es×Unit):=λ(e,h,_)=>(Bi (h,())).bind λ(i,_)=>e.bind λk=>(loop (σ:=(Int×es×es×Unit)) (ρ:=(es×es×Unit)) (λ(d,f,a,_)=>bif decide (d<ay k.1) then e.bind λl=>(aC l.1 d).bind λb=>(bN ((a.2.2.1).length+b.length)).bind λ_=>e.bind λj=>(aC j.2.1 d).bind λc=>(bN (((a.1,(a.2.1,((a.2.2.1++b),a.2.2.2))).2.2.2.1).length+c.length)).bind λ_=>(bN ((((a.1,(a.2.1,((a.2.2.1++b),a.2.2.2))).1,((a.1,(a.2.1,((a.2.2.1++b),a.2.2.2))).2.1,((a.1,(a.2.1,((a.2.2.1++b),a.2.2.2))).2.2.1,(((a.1,(a.2.1,((a.2.2.1++b),a.2.2.2))).2.2.2.1++c),(a.1,(a.2.1,((a.2.2.1++b),a.2.2.2))).2.2.2.2)))).2.1).length+([ay (((a.1,(a.2.1,((a.2.2.1++b),a.2.2.2))).1,((a.1,(a.2.1,((a.2.2.1++b),a.2.2.2))).2.1,((a.1,(a.2.1,((a.2.2.1++b),a.2.2.2))).2.2.1,(((a.1,(a.2.1,((a.2.2.1++b),a.2.2.2))).2.2.2.1++c),(a.1,(a.2.1,((a.2.2.1++b),a.2.2.2))).2.2.2.2)))).2.2.1)]).length)).bind λ_=>
 some (.inl (aY d,f,(((a.1,(a.2.1,((a.2.2.1++b),a.2.2.2))).1,((a.1,(a.2.1,((a.2.2.1++b),a.2.2.2))).2.1,((a.1,(a.2.1,((a.2.2.1++b),a.2.2.2))).2.2.1,(((a.1,(a.2.1,((a.2.2.1++b),a.2.2.2))).2.2.2.1++c),(a.1,(a.2.1,((a.2.2.1++b),a.2.2.2))).2.2.2.2)))).1,((((a.1,(a.2.1,((a.2.2.1++b),a.2.2.2))).1,((a.1,(a.2.1,((a.2.2.1++b),a.2.2.2))).2.1,((a.1,(a.2.1,((a.2.2.1++b),a.2.2.2))).2.2.1,(((a.1,(a.2.1,((a.2.2.1++b),a.2.2.2))).2.2.2.1++c),(a.1,(a.2.1,((a.2.2.1++b),a.2.2.2))).2.2.2.2)))).2.1++[ay (((a.1,(a.2.1,((a.2.2.1++b),a.2.2.2))).1,((a.1,(a.2.1,((a.2.2.1++b),a.2.2.2))).2.1,((a.1,(a.2.1,((a.2.2.1++b),a.2.2.2))).2.2.1,(((a.1,(a.2.1,((a.2.2.1++b),a.2.2.2))).2.2.2.1++c),(a.1,(a.2.1,((a.2.2.1++b),a.2.2.2))).2.2.2.2)))).2.2.1)]),((a.1,(a.2.1,((a.2.2.1++b),a.2.2.2))).1,((a.1,(a.2.1,((a.2.2.1++b),a.2.2.2))).2.1,((a.1,(a.2.1,((a.2.2.1++b),a.2.2.2))).2.2.1,(((a.1,(a.2.1,((a.2.2.1++b),a.2.2.2))).2.2.2.1++c),(a.1,(a.2.1,((a.2.2.1++b),a.2.2.2))).2.2.2.2)))).2.2)),())) else
 some (.inr (f,a,()))) (0,([],([],([],([],())))),(i,([0],(([]:aN),(([]:aN),())))),())).bind λ(_,g,_)=>some (g,())
def xj:(bJ×aN×Unit)->Option nA:=λ(g,e,_)=>(rj (g,e,())).bind λ(b,aR,_)=>(bif aR !=0 then some ((([]:aN),(([]:aN),(([]:aN),(([]:aN),())))),0,aR,()) else((xk (b,())).bind λ(m,_)=>b.bind λo=>(loop (σ:=(Int×es×hj×Unit)) (ρ:=((es×hj×Unit)⊕nA)) (λ(c,f,d,_)=>cond (decide (c<o.1)) ((Az (d,b,c,())).bind λ(i,a,_)=>cond (a==0) (some (.inl (aY c,f,i,()))) (cond (a==231) (some (.inr (.inr ((([]:aN),(([]:aN),(([]:aN),(([]:aN),())))),c,a,())))) (some (.inr (.inr ((([]:aN),(([]:aN),(([]:aN),(([]:aN),())))),0,a,())))))) (some (.inr (.inl (f,d,()))))) (0,([],([],([],([],())))),m,())).bind λj=>match j with
 |.inl (_,h,_)=>((xl (some h,e,())).bind λ(l,_)=>b.bind λn=>some (l,n.1,0,()))
 |.inr k=>some k))
def Bt:iD->Option eV:=λ(b,c,_)=>(bif ay b !=ay c then some (false,()) else((loop (σ:=bq) (ρ:=l7) (λ(a,_)=>cond (decide (a<ay b)) ((aC b a).bind λf=>(aC c a).bind λg=>cond (f !=g) (some (.inr (.inr (false,())))) (some (.inl (aY a,())))) (some (.inr (.inl ())))) (0,())).bind λd=>match d with
 |.inl _=>(some (true,()))
 |.inr e=>some e))
def Bv:Unit->Option eV:=λ_=>(td (4,0,())).bind λ(b,_)=>(td (2,0,())).bind λ(a,_)=>(td (5,0,())).bind λ(c,_)=>(xj ((2,(2,([0,2,3],([0,1,1],([b,a,c],()))))),[0,1],())).bind λ(aR,d,e,_)=>(cond ((e==0)==true) (cond ((d==2)==true) ((tb (aR.2.1,[0,2,3],())).bind λ(f,_)=>cond (f==true) ((Bt (aR.2.2.2.1,[a,4607182418800017408,a],())).bind λ(g,_)=>some (g,())) (some (false,()))) (some (false,()))) (some (false,())))
def mU:l8->Option bq:=λ(a,b,_)=>(gM (aJ a) (aJ b)).bind λc=>some (ar c,())
def ta:lB->Option bq:=λ(b,a,_)=>Option.bind (α:=bq) (cond (decide (ay b>0)) ((mU (a,ay b,())).bind λ(e,_)=>(aC b e).bind λf=>some (sh IntKind.u64 (aJ (aJ (aY a)*11400714819323198485)) f,())) (some (aJ (aJ (aY a)*11400714819323198485),()))) λ(c,_)=>(dk IntKind.u64 c 31).bind λd=>(dk IntKind.u64 (aJ (sh IntKind.u64 c d*13787848793156543929)) 29).bind λg=>some (sh IntKind.u64 (aJ (sh IntKind.u64 c d*13787848793156543929)) g,())
def E3:bq->Option bq:=λ(b,_)=>(gM b 19).bind λc=>(td (ar (ar c-9),0,())).bind λ(a,_)=>some (a,())
def vA:l8->Option bq:=λ(a,e,_)=>(mU (e,4,())).bind λ(b,_)=>(cond (b==1) ((dk IntKind.u64 a 52).bind λf=>(gN IntKind.u64 (aJ (1019+dr IntKind.u64 f 7)) 52).bind λg=>some (eL IntKind.u64 (dr IntKind.u64 a 9227875636482146303) g,())) (cond (b==2) ((dk IntKind.u64 a 8).bind λh=>(gM h 81).bind λi=>(gN IntKind.u64 (aJ (983+i)) 52).bind λj=>some (eL IntKind.u64 (dr IntKind.u64 a 9225623836668461056) j,())) (cond (b==3) ((te (a,())).bind λ(d,_)=>cond (!d) (some (0,())) (some (a,()))) ((E3 (a,())).bind λ(c,_)=>some (c,())))))
def s9:(aN×Int×Int×Int×Unit)->Option lC:=λ(n,e,g,q,_)=>(loop (σ:=(Int×bJ×bJ×Unit)) (ρ:=(bJ×bJ×Unit)) (λ(d,k,h,_)=>bif decide (d<g) then(loop (σ:=(Int×bJ×bJ×Unit)) (ρ:=(bJ×bJ×Unit)) (λ(b,f,a,_)=>bif decide (b<e) then Option.bind (α:=(bJ×bJ×Unit)) ((ta (n,ar (ar (100+ar (d*e))+b),())).bind λ(i,_)=>(dk IntKind.u64 i 40).bind λr=>(gM r 3).bind λs=>bif decide (s>0) then(bN ((a.2.2.2.1).length+([b]).length)).bind λ_=>(vA (i,q,())).bind λ(j,_)=>(bN (((a.1,(a.2.1,(a.2.2.1,((a.2.2.2.1++[b]),a.2.2.2.2)))).2.2.2.2.1).length+([j]).length)).bind λ_=>some (f,((a.1,(a.2.1,(a.2.2.1,((a.2.2.2.1++[b]),a.2.2.2.2)))).1,((a.1,(a.2.1,(a.2.2.1,((a.2.2.2.1++[b]),a.2.2.2.2)))).2.1,((a.1,(a.2.1,(a.2.2.1,((a.2.2.2.1++[b]),a.2.2.2.2)))).2.2.1,((a.1,(a.2.1,(a.2.2.1,((a.2.2.2.1++[b]),a.2.2.2.2)))).2.2.2.1,(((a.1,(a.2.1,(a.2.2.1,((a.2.2.2.1++[b]),a.2.2.2.2)))).2.2.2.2.1++[j]),(a.1,(a.2.1,(a.2.2.1,((a.2.2.2.1++[b]),a.2.2.2.2)))).2.2.2.2.2))))),()) else
 some (f,a,())) λ(o,l,_)=>some (.inl (aY b,o,l,())) else some (.inr (f,a,()))) (0,k,h,())).bind λ(p,c,_)=>(bN ((c.2.2.1).length+([ay c.2.2.2.1]).length)).bind λ_=>some (.inl (aY d,p,(c.1,(c.2.1,((c.2.2.1++[ay c.2.2.2.1]),c.2.2.2))),())) else some (.inr (k,h,()))) (0,((0:Int),((0:Int),([],([],([],()))))),(e,(g,([0],(([]:aN),(([]:aN),()))))),())).bind λ(_,m,_)=>some (m,())
def BL:eX->Option eV:=λ(b,_)=>(loop (σ:=bq) (ρ:=l7) (λ(a,_)=>cond (decide (a<ay b)) ((aC b a).bind λe=>(te (e,())).bind λ(aR,_)=>cond (!aR) (some (.inr (.inr (false,())))) (some (.inl (aY a,())))) (some (.inr (.inl ())))) (0,())).bind λc=>match c with
 |.inl _=>(some (true,()))
 |.inr d=>some d
def pZ:lC->Option bq:=λ(a,_)=>Option.bind (α:=Unit⊕bq) (cond (decide (a.1<0)==false) (cond (decide (a.1>200)==false) (cond (decide (a.2.1<0)==false) (cond (decide (a.2.1>200)==false) (cond (decide (ay a.2.2.2.1>10000)) (some (.inr (6,()))) (some (.inl ()))) (some (.inr (6,())))) (some (.inr (6,())))) (some (.inr (6,())))) (some (.inr (6,())))) λb=>match b with
 |.inl _=>(Option.bind (α:=Unit⊕bq) (cond ((ay a.2.2.2.2.1 !=ay a.2.2.2.1)==false) (cond ((ay a.2.2.1 !=aY a.2.1)==false) ((aC a.2.2.1 0).bind λn=>cond ((n !=0)==false) ((aC a.2.2.1 a.2.1).bind λo=>cond (o !=ay a.2.2.2.1) (some (.inr (1,()))) (some (.inl ()))) (some (.inr (1,())))) (some (.inr (1,())))) (some (.inr (1,())))) λb=>match b with
 |.inl _=>((loop (σ:=bq) (ρ:=lA) (λ(f,_)=>cond (decide (f<a.2.1)) ((aC a.2.2.1 f).bind λp=>(aC a.2.2.1 (aY f)).bind λq=>cond (decide (p>q)) (some (.inr (.inr (1,())))) (some (.inl (aY f,())))) (some (.inr (.inl ())))) (0,())).bind λb=>match b with
 |.inl _=>((loop (σ:=bq) (ρ:=lA) (λ(e,_)=>bif decide (e<a.2.1) then((aC a.2.2.1 e).bind λr=>(loop (σ:=bq) (ρ:=(Unit⊕(bq⊕lA))) (λ(d,_)=>(aC a.2.2.1 (aY e)).bind λh=>bif decide (d<h) then(Option.bind (α:=Unit⊕(bq⊕(Unit⊕(bq⊕lA)))) ((aC a.2.2.2.1 d).bind λi=>cond (decide (i<0)==false) ((aC a.2.2.2.1 d).bind λj=>cond (decide (j>=a.1)==false) ((aC a.2.2.1 e).bind λk=>cond (decide (d>k)==true) ((aC a.2.2.2.1 d).bind λl=>(aC a.2.2.2.1 (ar (d-1))).bind λm=>cond (decide (l<=m)) (some (.inr (.inr (.inr (.inr (.inr (1,()))))))) (some (.inl ()))) (some (.inl ()))) (some (.inr (.inr (.inr (.inr (.inr (1,())))))))) (some (.inr (.inr (.inr (.inr (.inr (1,())))))))) λb=>match b with
 |.inl _=>(some (.inl (aY d,())))
 |.inr c=>some c) else some (.inr (.inl ()))) (r,())).bind λb=>match b with
 |.inl _=>(some (.inl (aY e,())))
 |.inr c=>some c) else some (.inr (.inl ()))) (0,())).bind λb=>match b with
 |.inl _=>((BL (a.2.2.2.2.1,())).bind λ(g,_)=>cond (!g) (some (4,())) (some (0,())))
 |.inr c=>some c)
 |.inr c=>some c)
 |.inr c=>some c)
 |.inr c=>some c
def re:(bJ×Int×Int×Unit)->Option bq:=λ(a,f,b,_)=>Option.bind (α:=Unit⊕bq) ((pZ (a,())).bind λ(aR,_)=>cond ((aR !=0)==false) (cond (decide (b<0)==false) (cond (decide (b>=a.2.1)) (some (.inr (0,()))) (some (.inl ()))) (some (.inr (0,())))) (some (.inr (0,())))) λd=>match d with
 |.inl _=>((aC a.2.2.1 b).bind λg=>(loop (σ:=bq) (ρ:=lA) (λ(c,_)=>(aC a.2.2.1 (aY b)).bind λh=>cond (decide (c<h)) ((aC a.2.2.2.1 c).bind λi=>cond (i==f) ((aC a.2.2.2.2.1 c).bind λj=>some (.inr (.inr (j,())))) (some (.inl (aY c,())))) (some (.inr (.inl ())))) (g,())).bind λd=>match d with
 |.inl _=>(some (0,()))
 |.inr e=>some e)
 |.inr e=>some e
def x6:(bJ×Int×Int×Unit)->Option eV:=λ(a,c,b,_)=>Option.bind (α:=Unit⊕eV) (cond (decide (c<0)==false) (cond (decide (c>=a.1)==false) (cond (decide (b<0)==false) (cond (decide (b>=a.2.1)) (some (.inr (false,()))) (some (.inl ()))) (some (.inr (false,())))) (some (.inr (false,())))) (some (.inr (false,())))) λe=>match e with
 |.inl _=>((aC a.2.2.1 b).bind λg=>(loop (σ:=bq) (ρ:=l7) (λ(d,_)=>(aC a.2.2.1 (aY b)).bind λh=>cond (decide (d<h)) ((aC a.2.2.2.1 d).bind λi=>cond (i==c) (some (.inr (.inr (true,())))) (some (.inl (aY d,())))) (some (.inr (.inl ())))) (g,())).bind λe=>match e with
 |.inl _=>(some (false,()))
 |.inr f=>some f)
 |.inr f=>some f
def vz:(aN×Int×Int×Unit)->Option lC:=λ(G,f,N,_)=>(mU (N,3,())).bind λ(aR,_)=>(s9 (G,f,f,aR,())).bind λ(F,_)=>(loop (σ:=(Int×bJ×bJ×bJ×Unit)) (ρ:=(bJ×bJ×Unit)) (λ(h,r,w,n,_)=>bif decide (h<f) then(loop (σ:=(Int×bJ×bJ×bJ×Unit)) (ρ:=(bJ×bJ×bJ×Unit)) (λ(c,j,g,a,_)=>bif decide (c<f) then Option.bind (α:=(bJ×bJ×bJ×Unit)) (bif c==h then(x0 (1,())).bind λ(A,_)=>(loop (σ:=(Int×bJ×bJ×bJ×gF×Unit)) (ρ:=(bJ×bJ×bJ×gF×Unit)) (λ(d,m,i,l,k,_)=>bif decide (d<f) then Option.bind (α:=(bJ×bJ×bJ×gF×Unit)) (cond (d !=c) ((re (i,(if d>c then d else c),(if d<c then d else c),())).bind λ(B,_)=>(rc (B,())).bind λ(C,_)=>(BB (C,())).bind λ(o,_)=>(bN (k.length+([o]).length)).bind λ_=>some (m,i,l,(k++[o]),())) (some (m,i,l,k,()))) λ(H,s,x,I,_)=>
 some (.inl (aY d,H,s,x,I,())) else some (.inr (m,i,l,k,()))) (0,j,g,a,[A],())).bind λ(J,t,b,K,_)=>(bN ((b.2.2.2.1).length+([c]).length)).bind λ_=>(x2 (K,())).bind λ(D,_)=>(x3 (D,2,())).bind λ(p,_)=>(bN (((b.1,(b.2.1,(b.2.2.1,((b.2.2.2.1++[c]),b.2.2.2.2)))).2.2.2.2.1).length+([p]).length)).bind λ_=>some (J,t,((b.1,(b.2.1,(b.2.2.1,((b.2.2.2.1++[c]),b.2.2.2.2)))).1,((b.1,(b.2.1,(b.2.2.1,((b.2.2.2.1++[c]),b.2.2.2.2)))).2.1,((b.1,(b.2.1,(b.2.2.1,((b.2.2.2.1++[c]),b.2.2.2.2)))).2.2.1,((b.1,(b.2.1,(b.2.2.1,((b.2.2.2.1++[c]),b.2.2.2.2)))).2.2.2.1,(((b.1,(b.2.1,(b.2.2.1,((b.2.2.2.1++[c]),b.2.2.2.2)))).2.2.2.2.1++[p]),(b.1,(b.2.1,(b.2.2.1,((b.2.2.2.1++[c]),b.2.2.2.2)))).2.2.2.2.2))))),()) else(x6 (g,c,h,())).bind λ(E,_)=>bif E then(bN ((a.2.2.2.1).length+([c]).length)).bind λ_=>(re (g,c,h,())).bind λ(q,_)=>
 (bN (((a.1,(a.2.1,(a.2.2.1,((a.2.2.2.1++[c]),a.2.2.2.2)))).2.2.2.2.1).length+([q]).length)).bind λ_=>some (j,g,((a.1,(a.2.1,(a.2.2.1,((a.2.2.2.1++[c]),a.2.2.2.2)))).1,((a.1,(a.2.1,(a.2.2.1,((a.2.2.2.1++[c]),a.2.2.2.2)))).2.1,((a.1,(a.2.1,(a.2.2.1,((a.2.2.2.1++[c]),a.2.2.2.2)))).2.2.1,((a.1,(a.2.1,(a.2.2.1,((a.2.2.2.1++[c]),a.2.2.2.2)))).2.2.2.1,(((a.1,(a.2.1,(a.2.2.1,((a.2.2.2.1++[c]),a.2.2.2.2)))).2.2.2.2.1++[q]),(a.1,(a.2.1,(a.2.2.1,((a.2.2.2.1++[c]),a.2.2.2.2)))).2.2.2.2.2))))),()) else some (j,g,a,())) λ(L,u,y,_)=>some (.inl (aY c,L,u,y,())) else some (.inr (j,g,a,()))) (0,r,w,n,())).bind λ(M,v,e,_)=>(bN ((e.2.2.1).length+([ay e.2.2.2.1]).length)).bind λ_=>some (.inl (aY h,M,v,(e.1,(e.2.1,((e.2.2.1++[ay e.2.2.2.1]),e.2.2.2))),())) else some (.inr (r,n,()))) (0,((0:Int),((0:Int),([],([],([],()))))),F,(f,(f,([0],(([]:aN),(([]:aN),()))))),())).bind λ(_,z,_)=>
 some (z,())
def xP:lB->Option eX:=λ(m,j,_)=>(loop (σ:=lB) (ρ:=eX) (λ(a,c,_)=>cond (decide (c<j)) ((ta (m,ar (700+c),())).bind λ(l,_)=>(dk IntKind.u64 l 1).bind λn=>(mU (ar n,aY c,())).bind λ(i,_)=>((some (0)).bind λg=>(fV i).bind λh=>(gd g h a.length).map λ_=>(g,h)).bind λb=>(bN (([]:aN).length+((a.take b.2).drop b.1).length)).bind λ_=>(bN (([]++((a.take b.2).drop b.1)).length+([c]).length)).bind λ_=>((fV i).bind λe=>(some a.length).bind λf=>(gd e f a.length).map λ_=>(e,f)).bind λd=>(bN ((([]++((a.take b.2).drop b.1))++[c]).length+((a.take d.2).drop d.1).length)).bind λ_=>some (.inl (((([]++((a.take b.2).drop b.1))++[c])++((a.take d.2).drop d.1)),aY c,()))) (some (.inr (a,())))) ([],0,())).bind λ(k,_)=>some (k,())
def xR:(aN×Int×Int×Bool×Unit)->Option (bJ×aN×Unit):=λ(b,e,c,d,_)=>(mU (e,6,())).bind λ(a,_)=>(cond d ((vz (b,a,c,())).bind λ(f,_)=>(xP (b,a,())).bind λ(g,_)=>some (f,g,())) ((s9 (b,a,a,c,())).bind λ(h,_)=>(xP (b,a,())).bind λ(i,_)=>some (h,i,())))
def BV:lB->Option eV:=λ(b,c,_)=>(bif ay b !=c then some (false,()) else((dV c c).bind λg=>(loop (σ:=(Int×fw×Unit)) (ρ:=l7) (λ(a,f,_)=>bif decide (a<c) then(Option.bind (α:=(fw×Unit)⊕((Int×fw×Unit)⊕l7)) (Option.bind (α:=(fw×Unit)⊕((fw×Unit)⊕((Int×fw×Unit)⊕l7))) ((aC b a).bind λl=>cond (decide (l<0)==false) ((aC b a).bind λm=>cond (decide (m>=c)==false) ((aC b a).bind λn=>rd f n λj=>cond j (some (.inr (.inr (.inr (.inr (false,())))))) (some (.inl (f,())))) (some (.inr (.inr (.inr (.inr (false,()))))))) (some (.inr (.inr (.inr (.inr (false,()))))))) λd=>match d with
 |.inl (h,_)=>((aC b a).bind λk=>wr h k true λo=>some (.inl (o,())))
 |.inr e=>some e) λd=>match d with
 |.inl (i,_)=>(some (.inl (aY a,i,())))
 |.inr e=>some e) else some (.inr (.inl ()))) (0,List.replicate g false,())).bind λd=>match d with
 |.inl _=>(some (true,()))
 |.inr e=>some e))
def yh:(bJ×aN×Unit)->Option bq:=λ(a,c,_)=>(pZ (a,())).bind λ(b,_)=>(cond (b !=0) (some (b,())) (cond (a.1 !=a.2.1) (some (5,())) ((BV (c,a.1,())).bind λ(aR,_)=>cond (!aR) (some (90,())) (some (0,())))))
def x5:lC->Option jj:=λ(b,_)=>(pZ (b,())).bind λ(j,_)=>(cond (j !=0) (some ([],())) ((loop (σ:=pJ) (ρ:=jj) (λ(a,e,_)=>cond (decide (a<b.2.1)) ((aC b.2.2.1 a).bind λk=>(loop (σ:=pJ) (ρ:=jj) (λ(c,d,_)=>(aC b.2.2.1 (aY a)).bind λl=>cond (decide (c<l)) ((aC b.2.2.2.1 c).bind λf=>(aC b.2.2.2.2.1 c).bind λg=>(bN (d.length+([(f,(a,(g,())))]).length)).bind λ_=>some (.inl (aY c,(d++[(f,(a,(g,())))]),()))) (some (.inr (d,())))) (k,e,())).bind λ(h,_)=>some (.inl (aY a,h,()))) (some (.inr (e,())))) (0,[],())).bind λ(i,_)=>some (i,())))
def BM:Eh->Option lC:=λ(d,g,h,_)=>(dV (ar (d*g)) (ar (d*g))).bind λy=>(loop (σ:=(Int×bJ×bJ×aN×Unit)) (ρ:=(bJ×bJ×aN×Unit)) (λ(e,o,m,k,_)=>cond (decide (e<ay h)) ((aC h e).bind λD=>(aC h e).bind λC=>wr k (ar (ar (D.2.1*d)+C.1)) (aY e) λE=>some (.inl (aY e,o,m,E,()))) (some (.inr (o,m,k,())))) (0,((0:Int),((0:Int),([],([],([],()))))),(d,(g,([0],(([]:aN),(([]:aN),()))))),List.replicate y (0:Int),())).bind λ(z,v,r,_)=>(loop (σ:=(Int×bJ×bJ×aN×Unit)) (ρ:=(bJ×bJ×Unit)) (λ(i,n,l,s,_)=>bif decide (i<g) then(loop (σ:=(Int×bJ×bJ×aN×Unit)) (ρ:=(bJ×bJ×aN×Unit)) (λ(b,j,a,f,_)=>bif decide (b<d) then Option.bind (α:=(bJ×bJ×aN×Unit)) (rd f (ar (ar (i*d)+b)) λp=>bif decide (p>0) then(bN ((a.2.2.2.1).length+([b]).length)).bind λ_=>(aC h (ar (p-1))).bind λq=>
 (bN (((a.1,(a.2.1,(a.2.2.1,((a.2.2.2.1++[b]),a.2.2.2.2)))).2.2.2.2.1).length+([q.2.2.1]).length)).bind λ_=>some (j,((a.1,(a.2.1,(a.2.2.1,((a.2.2.2.1++[b]),a.2.2.2.2)))).1,((a.1,(a.2.1,(a.2.2.1,((a.2.2.2.1++[b]),a.2.2.2.2)))).2.1,((a.1,(a.2.1,(a.2.2.1,((a.2.2.2.1++[b]),a.2.2.2.2)))).2.2.1,((a.1,(a.2.1,(a.2.2.1,((a.2.2.2.1++[b]),a.2.2.2.2)))).2.2.2.1,(((a.1,(a.2.1,(a.2.2.1,((a.2.2.2.1++[b]),a.2.2.2.2)))).2.2.2.2.1++[q.2.2.1]),(a.1,(a.2.1,(a.2.2.1,((a.2.2.2.1++[b]),a.2.2.2.2)))).2.2.2.2.2))))),f,()) else some (j,a,f,())) λ(A,w,t,_)=>some (.inl (aY b,A,w,t,())) else some (.inr (j,a,f,()))) (0,n,l,s,())).bind λ(B,c,u,_)=>(bN ((c.2.2.1).length+([ay c.2.2.2.1]).length)).bind λ_=>some (.inl (aY i,B,(c.1,(c.2.1,((c.2.2.1++[ay c.2.2.2.1]),c.2.2.2))),u,())) else some (.inr (n,l,()))) (0,z,v,r,())).bind λ(_,x,_)=>
 some (x,())
def rf:lC->Option (bJ×Int×Unit):=λ(b,_)=>(pZ (b,())).bind λ(aR,_)=>(cond (aR !=0) (some (((0:Int),((0:Int),(([]:aN),(([]:aN),(([]:aN),()))))),aR,())) ((x5 (b,())).bind λ(d,_)=>(loop (σ:=(Int×bJ×ka×Unit)) (ρ:=(bJ×ka×Unit)) (λ(a,e,c,_)=>cond (decide (a<ay d)) (Option.bind (α:=(bJ×ka×Unit)) ((aC d a).bind λl=>(aC d a).bind λk=>cond (decide (l.1>=k.2.1)) ((aC d a).bind λf=>(bN (c.length+([f]).length)).bind λ_=>some (e,(c++[f]),())) (some (e,c,()))) λ(j,g,_)=>some (.inl (aY a,j,g,()))) (some (.inr (e,c,())))) (0,((0:Int),((0:Int),([],([],([],()))))),[],())).bind λ(_,h,_)=>(BM (b.1,b.2.1,h,())).bind λ(i,_)=>some (i,0,())))
def rh:lC->Option ((List aN×Unit)×Int×Unit):=λ(a,_)=>(pZ (a,())).bind λ(g,_)=>(cond (g !=0) (some ((([]:List aN),()),g,())) (cond (a.1 !=a.2.1) (some ((([]:List aN),()),5,())) ((x9 (a.1,())).bind λ(l,_)=>(x5 (a,())).bind λ(aR,_)=>(loop (σ:=(Int×(List aN×Unit)×List fw×Unit)) (ρ:=((List aN×Unit)×List fw×Unit)) (λ(c,h,b,_)=>cond (decide (c<ay aR)) ((aC aR c).bind λo=>(bh b.length o.1).bind λd=>(aC aR c).bind λn=>((aZ b d λi=>some i).bind λj=>bh j.length n.2.1).bind λf=>(aZ b d λe=>(aZ e f λ_=>some (e.set f true)).map λp=>b.set d p).bind λq=>some (.inl (aY c,h,q,()))) (some (.inr (h,b,())))) (0,([],()),l,())).bind λ(_,m,_)=>(x7 (m,())).bind λ(k,_)=>some (k,0,()))))
def yg:(bJ×aN×Unit)->Option ((List aN×Unit)×Unit):=λ(a,b,_)=>(rf (a,())).bind λ(c,_,_)=>(rh (c,())).bind λ(d,_,_)=>(p0 (d,b,())).bind λ(e,_,_)=>some (e,())
def BT:(bJ×aN×Int×Int×Unit)->Option eW:=λ(d,c,e,f,_)=>(aC c e).bind λa=>(aC c f).bind λb=>(re (d,(if b>a then b else a),(if b<a then b else a),())).bind λ(g,_)=>(rc (g,())).bind λ(h,_)=>some (h,())
def ye:l8->Option eW:=λ(a,b,_)=>(rc (a,())).bind λ(c,_)=>(rc (b,())).bind λ(aR,_)=>(BD (c,aR,())).bind λ(d,_)=>some (d,())
def yf:eW->Option bq:=λ(a,_)=>(BK (a,0,())).bind λ(b,_)=>some (b,())
def BR:bq->Option eV:=λ(a,_)=>(cond ((a==0)==false) (some ((a==9223372036854775808),())) (some (true,())))
def BS:pI->Option bq:=λ(a,b,_)=>(BJ (a,b,0,())).bind λ(c,_)=>some (c,())
def BU:(bJ×aN×Unit)->Option nA:=λ(d,j,_)=>(yh (d,j,())).bind λ(E,_)=>(bif E !=0 then some ((([]:aN),(([]:aN),(([]:aN),(([]:aN),())))),0,E,()) else((yg (d,j,())).bind λ(ce,_)=>(vG (ce,())).bind λ(F,_,_)=>(dV d.1 d.1).bind λbs=>(loop (σ:=(Int×es×List aN×Unit)) (ρ:=(es×List aN×Unit)) (λ(p,I,C,_)=>cond (decide (p<d.1)) ((dV d.1 d.1).bind λbB=>wr C p (List.replicate bB (0:Int)) λek=>some (.inl (aY p,I,ek,()))) (some (.inr (I,C,())))) (0,([],([],([],([],())))),List.replicate bs [],())).bind λ(ds,a0,_)=>(bN (([]:aN).length+j.length)).bind λ_=>(loop (σ:=u1) (ρ:=((es×es×Unit)⊕nA)) (λ(b,J,a3,v,_)=>bif decide (b<d.1) then((loop (σ:=u1) (ρ:=Ei) (λ(n,K,D,w,_)=>(aC F b).bind λd6=>bif decide (n<ay d6) then(Option.bind (α:=(es×List aN×es×Unit)⊕(u1⊕Ei)) (
 (aC F b).bind λd7=>(aC d7 n).bind λc=>(BT (d,j,c,b,())).bind λ(ci,_)=>(loop (σ:=(Int×es×List aN×es×gF×Unit)) (ρ:=(es×List aN×es×gF×Unit)) (λ(l,L,e,x,s,_)=>cond (decide (l<b)) ((bh e.length l).bind λy=>((aZ e y λM=>some M).bind λN=>bh N.length c).bind λan=>(aZ e y λO=>aZ O an λP=>some P).bind λd8=>(bh e.length l).bind λz=>((aZ e z λQ=>some Q).bind λR=>bh R.length b).bind λap=>(aZ e z λS=>aZ S ap λT=>some T).bind λd9=>(ye (d8,d9,())).bind λ(co,_)=>(x1 (co,())).bind λ(G,_)=>(bN (s.length+([G]).length)).bind λ_=>some (.inl (aY l,L,e,x,(s++[G]),()))) (some (.inr (L,e,x,s,())))) (0,K,D,w,[ci],())).bind λ(t,i,o,d0,_)=>(x2 (d0,())).bind λ(r,_)=>
 Option.bind (α:=u1⊕((es×List aN×es×Unit)⊕(u1⊕Ei))) (cond (c==b) ((yf (r,())).bind λ(H,_)=>Option.bind (α:=(Bool×es×List aN×es×Unit)) ((BG (r,())).bind λ(cs,_)=>cond (decide (cs<=0)==false) ((BR (H,())).bind λ(cv,_)=>some (cv,t,i,o,())) (some (true,t,i,o,()))) λ(d1,d2,a4,ab,_)=>cond d1 (some (.inr (.inr (.inr (.inr (.inr (.inr ((([]:aN),(([]:aN),(([]:aN),(([]:aN),())))),b,231,())))))))) (some (.inl (H,d2,a4,ab,())))) ((bh i.length b).bind λA=>((aZ i A λU=>some U).bind λV=>bh V.length b).bind λav=>(aZ i A λW=>aZ W av λX=>some X).bind λed=>(rc (ed,())).bind λ(c1,_)=>(BS (r,c1,())).bind λ(c2,_)=>some (.inl (c2,t,i,o,())))) λf=>match f with
 |.inl (m,d3,k,a,_)=>((te (m,())).bind λ(dl,_)=>cond (!dl) (some (.inr (.inr (.inr (.inr (.inr ((([]:aN),(([]:aN),(([]:aN),(([]:aN),())))),0,233,()))))))) ((bh k.length b).bind λq=>((aZ k q λY=>some Y).bind λZ=>bh Z.length c).bind λB=>(aZ k q λu=>(aZ u B λ_=>some (u.set B m)).map λel=>k.set q el).bind λem=>(bN ((a.2.2.1).length+([c]).length)).bind λ_=>(bN (((a.1,(a.2.1,((a.2.2.1++[c]),a.2.2.2))).2.2.2.1).length+([m]).length)).bind λ_=>some (.inl (d3,em,((a.1,(a.2.1,((a.2.2.1++[c]),a.2.2.2))).1,((a.1,(a.2.1,((a.2.2.1++[c]),a.2.2.2))).2.1,((a.1,(a.2.1,((a.2.2.1++[c]),a.2.2.2))).2.2.1,(((a.1,(a.2.1,((a.2.2.1++[c]),a.2.2.2))).2.2.2.1++[m]),(a.1,(a.2.1,((a.2.2.1++[c]),a.2.2.2))).2.2.2.2)))),()))))
 |.inr g=>some g) λf=>match f with
 |.inl (d4,bd,ad,_)=>(some (.inl (aY n,d4,bd,ad,())))
 |.inr g=>some g) else some (.inr (.inl (K,D,w,())))) (0,J,a3,v,())).bind λf=>match f with
 |.inl (d5,bl,h,_)=>((bN ((h.2.1).length+([ay h.2.2.1]).length)).bind λ_=>some (.inl (aY b,d5,bl,(h.1,((h.2.1++[ay h.2.2.1]),h.2.2)),())))
 |.inr g=>some g) else some (.inr (.inl (J,v,())))) (0,ds,a0,(([]++j),([0],(([]:aN),(([]:aN),())))),())).bind λf=>match f with
 |.inl (_,am,_)=>(some (am,d.1,0,()))
 |.inr g=>some g))
def Bs:(es×es×Unit)->Option eV:=λ(a,b,_)=>(tb (a.1,b.1,())).bind λ(c,_)=>(cond (c==true) ((tb (a.2.1,b.2.1,())).bind λ(aR,_)=>cond (aR==true) ((tb (a.2.2.1,b.2.2.1,())).bind λ(d,_)=>cond (d==true) ((Bt (a.2.2.2.1,b.2.2.2.1,())).bind λ(e,_)=>some (e,())) (some (false,()))) (some (false,()))) (some (false,())))
def xO:(bJ×aN×aN×Unit)->Option (fv×Unit):=λ(O,d9,em,_)=>(rf (O,())).bind λ(aR,_,_)=>(rh (aR,())).bind λ(ek,_,_)=>(p0 (ek,d9,())).bind λ(el,_,_)=>(vG (el,())).bind λ(h,_,_)=>(loop (σ:=(Int×fv×List fw×Unit)) (ρ:=iR) (λ(b,y,s,_)=>bif decide (b<ay h) then Option.bind (α:=iR) (Option.bind (α:=iR) (Option.bind (α:=(Bool×fv×List fw×Unit)) (cond ((b==0)==false) ((ta (em,ar (900+b),())).bind λ(ed,_)=>(dk IntKind.u64 ed 7).bind λfT=>(gM fT 3).bind λf0=>some (decide (f0>0),y,s,())) (some (true,y,s,()))) λ(eq,z,t,_)=>bif eq then(bN (z.length+([(b,(aY b,(([]:aN),((-1:Int),()))))]).length)).bind λ_=>(dV (ay h) (ay h)).bind λN=>(bN (t.length+([List.replicate N false]).length)).bind λ_=>some ((z++[(b,(aY b,(([]:aN),((-1:Int),()))))]),(t++[List.replicate N false]),()) else
 some (z,t,())) λ(m,bd,_)=>(bh m.length (ar (ay m-1))).bind λG=>(aZ m G λB=>some (m.set G (B.1,(aY b,B.2.2)))).bind λgf=>(loop (σ:=(Int×fv×List fw×Unit)) (ρ:=iR) (λ(x,L,l,_)=>(aC h b).bind λf1=>cond (decide (x<ay f1)) ((bh l.length (ar (ay m-1))).bind λw=>(aC h b).bind λf2=>(aC f2 x).bind λf3=>((aZ l w λT=>some T).bind λU=>bh U.length f3).bind λH=>(aZ l w λC=>(aZ C H λ_=>some (C.set H true)).map λgi=>l.set w gi).bind λgl=>some (.inl (aY x,L,gl,()))) (some (.inr (L,l,())))) (0,gf,bd,())).bind λ(d5,bl,_)=>some (d5,bl,())) λ(d6,bs,_)=>some (.inl (aY b,d6,bs,())) else some (.inr (y,s,()))) (0,[],[],())).bind λ(d7,bB,_)=>(loop (σ:=(Int×fv×List fw×Unit)) (ρ:=(fv×Unit)) (λ(a,n,ce,_)=>bif decide (a<ay n) then(bh n.length a).bind λcv=>
 (aZ n cv λV=>some V.1).bind λf4=>(loop (σ:=(Int×fv×List fw×Unit)) (ρ:=iR) (λ(c,d,f,_)=>bif decide (c<ay h) then Option.bind (α:=iR) ((bh f.length a).bind λI=>((aZ f I λW=>some W).bind λX=>bh X.length c).bind λc1=>(aZ f I λY=>aZ Y c1 λZ=>some Z).bind λf5=>bif !f5 then some (d,f,()) else(bh d.length a).bind λJ=>(aZ d J λab=>some ab.2.2.1).bind λfp=>(bN (fp.length+([c]).length)).bind λ_=>(bh d.length a).bind λp=>bif Nat.beq J p&&true then(aZ d p λad=>some ad.2.2.1).bind λfs=>(aZ d p λr=>some (d.set p (r.1,(r.2.1,((fs++[c]),r.2.2.2))))).bind λi=>Option.bind (α:=iR) (Option.bind (α:=(Bool×fv×List fw×Unit)) ((bh i.length a).bind λc2=>(aZ i c2 λam=>some am.2.1).bind λf6=>bif decide (c>=f6)==true then(bh i.length a).bind λdl=>(aZ i dl λan=>some an.2.2.2.1).bind λf7=>
 some (decide (f7<0),i,f,()) else some (false,i,f,())) λ(ex,M,D,_)=>cond ex ((loop (σ:=(Int×fv×List fw×Unit)) (ρ:=iR) (λ(j,e,u,_)=>cond (decide (j<ay e)) (Option.bind (α:=iR) (Option.bind (α:=(Bool×fv×List fw×Unit)) ((bh e.length j).bind λds=>(aZ e ds λap=>some ap.1).bind λf8=>cond (decide (c>=f8)==true) ((bh e.length j).bind λd0=>(aZ e d0 λav=>some av.2.1).bind λf9=>some (decide (c<f9),e,u,())) (some (false,e,u,()))) λ(fn,q,E,_)=>cond fn ((bh q.length a).bind λK=>(aZ q K λo=>some (q.set K (o.1,(o.2.1,(o.2.2.1,(j,o.2.2.2.2)))))).bind λgo=>some (go,E,())) (some (q,E,()))) λ(d8,ci,_)=>some (.inl (aY j,d8,ci,()))) (some (.inr (e,u,())))) (aY a,M,D,())).bind λ(d1,a0,_)=>some (d1,a0,())) (some (M,D,()))) λ(g,k,_)=>(bh g.length a).bind λco=>
 (aZ g co λP=>some P.2.1).bind λft=>cond (decide (c>=ft)) ((bh g.length a).bind λcs=>(aZ g cs λQ=>some Q.2.2.2.1).bind λfz=>(bh k.length fz).bind λv=>((aZ k v λR=>some R).bind λS=>bh S.length c).bind λF=>(aZ k v λA=>(aZ A F λ_=>some (A.set F true)).map λgc=>k.set v gc).bind λge=>some (g,ge,())) (some (g,k,())) else none) λ(d2,a3,_)=>some (.inl (aY c,d2,a3,())) else some (.inr (d,f,()))) (f4,n,ce,())).bind λ(d3,a4,_)=>some (.inl (aY a,d3,a4,())) else some (.inr (n,()))) (0,d7,bB,())).bind λ(d4,_)=>some (d4,())
def vy:lB->Option bq:=λ(b,e,_)=>(loop (σ:=bq) (ρ:=lA) (λ(a,_)=>cond (decide (a<ay b)) ((aC b a).bind λf=>cond (e==f) (some (.inr (.inr (a,())))) (some (.inl (aY a,())))) (some (.inr (.inl ())))) (0,())).bind λc=>match c with
 |.inl _=>(some ((-1:Int),()))
 |.inr d=>some d
def AJ:cW->Option bq:=λ(b,a,c,_)=>Option.bind (α:=eV) (cond (decide (b<0)==false) (some (decide (a<0),())) (some (true,()))) λ(d,_)=>(cond d (some (5,())) (Option.bind (α:=eV) (cond (decide (b>64)==false) (some (decide (a>64),())) (some (true,()))) λ(e,_)=>cond e (some (6,())) (cond (c !=ar (b*a)) (some (2,())) (some (0,())))))
def vh:(e6×Unit)->Option bq:=λ(a,_)=>(AJ (a.1,a.2.1,ay a.2.2.1,())).bind λ(c,_)=>(bif c !=0 then some (c,()) else((loop (σ:=bq) (ρ:=lA) (λ(b,_)=>cond (decide (b<ay a.2.2.1)) ((aC a.2.2.1 b).bind λg=>(s1 (g,())).bind λ(f,_)=>cond (!f) (some (.inr (.inr (4,())))) (some (.inl (aY b,())))) (some (.inr (.inl ())))) (0,())).bind λd=>match d with
 |.inl _=>(some (0,()))
 |.inr e=>some e))
def AI:lB->Option eV:=λ(b,f,_)=>(loop (σ:=bq) (ρ:=l7) (λ(a,_)=>bif decide (a<ay b) then(Option.bind (α:=Unit⊕(bq⊕l7)) ((aC b a).bind λe=>cond (decide (e<0)==false) (cond (decide (e>=f)==false) (cond (decide (a>0)==true) ((aC b (ar (a-1))).bind λg=>cond (decide (g>=e)) (some (.inr (.inr (.inr (false,()))))) (some (.inl ()))) (some (.inl ()))) (some (.inr (.inr (.inr (false,())))))) (some (.inr (.inr (.inr (false,())))))) λc=>match c with
 |.inl _=>(some (.inl (aY a,())))
 |.inr d=>some d) else some (.inr (.inl ()))) (0,())).bind λc=>match c with
 |.inl _=>(some (true,()))
 |.inr d=>some d
def AE:(e6×aN×e6×Unit)->Option pK:=λ(a,d,e,_)=>(vh (a,())).bind λ(p,_)=>(bif p !=0 then some (((0:Int),((0:Int),(([]:gF),()))),p,()) else(vh (e,())).bind λ(q,_)=>bif q !=0 then some (((0:Int),((0:Int),(([]:gF),()))),q,()) else(Option.bind (α:=(e6×Unit)⊕pK) (Option.bind (α:=(Bool×e6×Unit)) (cond ((a.1 !=a.2.1)==false) (cond ((e.1 !=e.2.1)==false) (some ((ay d !=e.1),((0:Int),((0:Int),([],()))),())) (some (true,((0:Int),((0:Int),([],()))),()))) (some (true,((0:Int),((0:Int),([],()))),()))) λ(D,E,_)=>cond D (some (.inr (((0:Int),((0:Int),(([]:gF),()))),5,()))) (some (.inl (E,())))) λf=>match f with
 |.inl (F,_)=>((AI (d,a.1,())).bind λ(z,_)=>bif !z then some (((0:Int),((0:Int),(([]:gF),()))),232,()) else((dV (ay a.2.2.1) (ay a.2.2.1)).bind λv=>(loop (σ:=oB) (ρ:=nB) (λ(h,r,c,_)=>cond (decide (h<ay a.2.2.1)) ((aC a.2.2.1 h).bind λI=>(q4 (I,())).bind λ(A,_)=>(bh (c.2.2.1).length h).bind λm=>((((aZ c.2.2.1 m λ_=>some ((c.2.2.1).set m A)).map λM=>(M,c.2.2.2)).map λN=>(c.2.1,N)).map λO=>(c.1,O)).bind λP=>some (.inl (aY h,r,P,()))) (some (.inr (r,c,())))) (0,F,(a.1,(a.2.1,(List.replicate v (false,((false,([],())),((0:Int),()))),()))),())).bind λ(G,w,_)=>(loop (σ:=oB) (ρ:=(nB⊕pK)) (λ(i,s,o,_)=>bif decide (i<ay d) then((loop (σ:=oB) (ρ:=(nB⊕(oB⊕(nB⊕pK)))) (λ(j,t,b,_)=>bif decide (j<ay d) then(aC d i).bind λk=>(aC d j).bind λl=>
 rd b.2.2.1 (ar (ar (k*a.1)+l)) λJ=>(aC e.2.2.1 (ar (ar (i*e.1)+j))).bind λK=>(AK (J,K,())).bind λ(B,_)=>(bh (b.2.2.1).length (ar (ar (k*a.1)+l))).bind λn=>((((aZ b.2.2.1 n λ_=>some ((b.2.2.1).set n B)).map λQ=>(Q,b.2.2.2)).map λR=>(b.2.1,R)).map λS=>(b.1,S)).bind λu=>rd u.2.2.1 (ar (ar (k*a.1)+l)) λL=>(s1 (L,())).bind λ(C,_)=>cond (!C) (some (.inr (.inr (.inr (.inr (((0:Int),((0:Int),(([]:gF),()))),233,())))))) (some (.inl (aY j,t,u,()))) else some (.inr (.inl (t,b,())))) (0,s,o,())).bind λf=>match f with
 |.inl (H,x,_)=>(some (.inl (aY i,H,x,())))
 |.inr g=>some g) else some (.inr (.inl (s,o,())))) (0,G,w,())).bind λf=>match f with
 |.inl (_,y,_)=>(some (y,0,()))
 |.inr g=>some g))
 |.inr g=>some g))
def AV:(Option l6×(Int×(Int×(aN×bq)))×fv×List e6×Unit)->Option pK:=λ(G,a,o,L,_)=>(dV (ar (ay a.2.2.1*ay a.2.2.1)) (ar (ay a.2.2.1*ay a.2.2.1))).bind λH=>(loop (σ:=oB) (ρ:=nB) (λ(c,w,l,_)=>bif decide (c<a.2.1) then(loop (σ:=oB) (ρ:=nB) (λ(f,j,b,_)=>bif decide (f<ay a.2.2.1) then Option.bind (α:=nB) ((aC a.2.2.1 f).bind λz=>bif decide (z>=c) then(yi (G,z,c,())).bind λ(t,_)=>(bh (b.2.2.1).length (ar (ar (ar (c-a.1)*ay a.2.2.1)+f))).bind λp=>((((aZ b.2.2.1 p λ_=>some ((b.2.2.1).set p t)).map λS=>(S,b.2.2.2)).map λT=>(b.2.1,T)).map λU=>(b.1,U)).bind λe=>(bh (e.2.2.1).length (ar (ar (ar (f*ay a.2.2.1)+c)-a.1))).bind λq=>((((aZ e.2.2.1 q λ_=>some ((e.2.2.1).set q t)).map λV=>(V,e.2.2.2)).map λW=>(e.2.1,W)).map λX=>(e.1,X)).bind λY=>
 some (j,Y,()) else some (j,b,())) λ(M,B,_)=>some (.inl (aY f,M,B,())) else some (.inr (j,b,()))) (0,w,l,())).bind λ(N,C,_)=>some (.inl (aY c,N,C,())) else some (.inr (w,l,()))) (a.1,((0:Int),((0:Int),([],()))),(ay a.2.2.1,(ay a.2.2.1,(List.replicate H (false,((false,([],())),((0:Int),()))),()))),())).bind λ(O,D,_)=>(loop (σ:=oB) (ρ:=(nB⊕pK)) (λ(h,x,m,_)=>bif decide (h<ay o) then(aC o h).bind λd=>((fV (ar (d.2.1-d.1))).bind λr=>(some ((d.2.2.1).length)).bind λs=>(gd r s (d.2.2.1).length).map λ_=>(r,s)).bind λg=>(loop (σ:=(Int×e6×e6×aN×Unit)) (ρ:=(e6×e6×aN×Unit)) (λ(k,y,n,i,_)=>bif decide (k<ay (((d.2.2.1).take g.2).drop g.1)) then(aC (((d.2.2.1).take g.2).drop g.1) k).bind λQ=>(vy (a.2.2.1,Q,())).bind λ(u,_)=>(bN (i.length+([u]).length)).bind λ_=>
 some (.inl (aY k,y,n,(i++[u]),())) else some (.inr (y,n,i,()))) (0,x,m,[],())).bind λ(P,E,A,_)=>(aC L h).bind λR=>(AE (E,A,R,())).bind λ(K,v,_)=>cond (v !=0) (some (.inr (.inr (((0:Int),((0:Int),(([]:gF),()))),v,())))) (some (.inl (aY h,P,K,()))) else some (.inr (.inl (x,m,())))) (0,O,D,())).bind λI=>match I with
 |.inl (_,F,_)=>(some (F,0,()))
 |.inr J=>some J
def vi:(Option j9×Int×Int×Int×Unit)->Option eW:=λ(a,d,e,h,_)=>a.bind λr=>a.bind λs=>(aC r.1.2.2.1 (ar (ar (e*s.1.1)+d))).bind λt=>(loop (σ:=(Int×bX×gF×Unit)) (ρ:=(bX×gF×Unit)) (λ(b,g,c,_)=>cond (decide (b<h)) (a.bind λl=>a.bind λm=>(aC l.2.2.1 (ar (ar (b*m.1.1)+d))).bind λn=>a.bind λo=>a.bind λp=>(aC o.2.2.1 (ar (ar (b*p.1.1)+e))).bind λq=>(xo (n,q,())).bind λ(i,_)=>(xp (i,())).bind λ(f,_)=>(bN (c.length+([f]).length)).bind λ_=>some (.inl (aY b,g,(c++[f]),()))) (some (.inr (g,c,())))) (0,(false,((false,([],())),((0:Int),()))),[t],())).bind λ(_,k,_)=>(xu (k,())).bind λ(j,_)=>some (j,())
def xn:(j9×Int×Int×Int×Unit)->Option (j9×Bool×Unit):=λ(a,d,e,c,_)=>(pR (c,())).bind λ(i,_)=>(bh (a.2.1.2.2.1).length (ar (ar (e*a.1.1)+d))).bind λg=>((((((aZ a.2.1.2.2.1 g λ_=>some ((a.2.1.2.2.1).set g c)).map λq=>(q,a.2.1.2.2.2)).map λr=>(a.2.1.2.1,r)).map λj=>(a.2.1.1,j)).map λk=>(k,a.2.2)).map λl=>(a.1,l)).bind λb=>(bh (b.2.2.1).length (ar (ar (e*a.1.1)+d))).bind λf=>((((aZ b.2.2.1 f λ_=>some ((b.2.2.1).set f i)).map λm=>(m,b.2.2.2)).map λn=>(b.2.1,n)).map λo=>(b.1,o)).bind λp=>(q5 (c,())).bind λ(h,_)=>some (p,h,())
def AG:(j9×Int×Unit)->Option (j9×Int×Unit):=λ(b,a,_)=>(vi (some b,a,a,a,())).bind λ(e,_)=>(s1 (e,())).bind λ(aR,_)=>(bif !aR then some (b,233,()) else(pQ (e,())).bind λ(p,_)=>bif decide (p<=0) then some (b,231,()) else(xz (e,0,())).bind λ(f,_)=>(xx (f,())).bind λ(q,_)=>bif q==0 then some (b,231,()) else(xn (b,a,a,f,())).bind λ(h,r,_)=>bif !r then some (h,233,()) else((loop (σ:=(Int×j9×Unit)) (ρ:=((j9×Unit)⊕(j9×Int×Unit))) (λ(d,c,_)=>cond (decide (d<c.1.1)) ((vi (some c,d,a,a,())).bind λ(l,_)=>(pR (f,())).bind λ(m,_)=>(xy (l,m,0,())).bind λ(n,_)=>(xn (c,d,a,n,())).bind λ(g,o,_)=>cond (!o) (some (.inr (.inr (g,233,())))) (some (.inl (aY d,g,())))) (some (.inr (.inl (c,()))))) (aY a,h,())).bind λj=>match j with
 |.inl (i,_)=>(some (i,0,()))
 |.inr k=>some k))
def AH:(Option j9×Int×Unit)->Option pK:=λ(k,a,_)=>k.bind λb=>(dV (ar (ar (b.1.1-a)*ar (b.1.1-a))) (ar (ar (b.1.1-a)*ar (b.1.1-a)))).bind λr=>(loop (σ:=oB) (ρ:=(nB⊕pK)) (λ(d,n,j,_)=>bif decide (d<ar (b.1.1-a)) then((loop (σ:=oB) (ρ:=(nB⊕(oB⊕(nB⊕pK)))) (λ(f,o,c,_)=>bif decide (f<ar (b.1.1-a)) then(vi (k,ar (a+f),ar (a+d),a,())).bind λ(i,_)=>(s1 (i,())).bind λ(s,_)=>bif !s then some (.inr (.inr (.inr (.inr (((0:Int),((0:Int),(([]:gF),()))),233,()))))) else(bh (c.2.2.1).length (ar (ar (d*ar (b.1.1-a))+f))).bind λl=>((((aZ c.2.2.1 l λ_=>some ((c.2.2.1).set l i)).map λv=>(v,c.2.2.2)).map λw=>(c.2.1,w)).map λx=>(c.1,x)).bind λe=>(q4 (i,())).bind λ(t,_)=>(bh (e.2.2.1).length (ar (ar (f*ar (b.1.1-a))+d))).bind λm=>((((aZ e.2.2.1 m λ_=>some ((e.2.2.1).set m t)).map λy=>(y,e.2.2.2)).map λz=>(e.2.1,z)).map λA=>(e.1,A)).bind λB=>
 some (.inl (aY f,o,B,())) else some (.inr (.inl (o,c,())))) (d,n,j,())).bind λg=>match g with
 |.inl (u,p,_)=>(some (.inl (aY d,u,p,())))
 |.inr h=>some h) else some (.inr (.inl (n,j,())))) (0,((0:Int),((0:Int),([],()))),(ar (b.1.1-a),(ar (b.1.1-a),(List.replicate r (false,((false,([],())),((0:Int),()))),()))),())).bind λg=>match g with
 |.inl (_,q,_)=>(some (q,0,()))
 |.inr h=>some h
def AF:(e6×Int×Int×Unit)->Option (lD×e6×Int×Int×Unit):=λ(b,a,e,_)=>(vh (b,())).bind λ(k,_)=>Option.bind (α:=(Int×e6×lD×e6×Unit)) (cond (k !=0) (some (k,b,((0:Int),((0:Int),([],()))),((0:Int),((0:Int),([],()))),())) (Option.bind (α:=(Bool×e6×lD×e6×Unit)) (cond ((b.1 !=b.2.1)==false) (cond (decide (a<0)==false) (some (decide (a>b.1),b,((0:Int),((0:Int),([],()))),((0:Int),((0:Int),([],()))),())) (some (true,b,((0:Int),((0:Int),([],()))),((0:Int),((0:Int),([],()))),()))) (some (true,b,((0:Int),((0:Int),([],()))),((0:Int),((0:Int),([],()))),()))) λ(B,h,l,m,_)=>cond B (some (5,h,l,m,())) (cond (decide (e<1)) (some (230,h,l,m,())) (some (k,h,l,m,()))))) λ(n,d,C,D,_)=>(bif n !=0 then some (((0:Int),((0:Int),(([]:aN),()))),((0:Int),((0:Int),(([]:gF),()))),0,n,()) else(
 (dV (ar (d.1*a)) (ar (d.1*a))).bind λy=>(dV (ar (d.1*a)) (ar (d.1*a))).bind λz=>(loop (σ:=(Int×lD×e6×j9×Unit)) (ρ:=((lD×e6×j9×Unit)⊕(lD×e6×Int×Int×Unit))) (λ(c,s,t,o,_)=>bif decide (c<a) then((loop (σ:=(Int×lD×e6×j9×Unit)) (ρ:=((lD×e6×j9×Unit)⊕((Int×lD×e6×j9×Unit)⊕((lD×e6×j9×Unit)⊕(lD×e6×Int×Int×Unit))))) (λ(f,u,v,p,_)=>cond (decide (f<ar (c+(if(ar (a-c))<e then ar (a-c) else e)))) ((AG (p,f,())).bind λ(x,g,_)=>cond (g==0) (some (.inl (aY f,u,v,x,()))) (cond (g==231) (some (.inr (.inr (.inr (.inr (((0:Int),((0:Int),(([]:aN),()))),((0:Int),((0:Int),(([]:gF),()))),f,g,())))))) (some (.inr (.inr (.inr (.inr (((0:Int),((0:Int),(([]:aN),()))),((0:Int),((0:Int),(([]:gF),()))),0,g,())))))))) (some (.inr (.inl (u,v,p,()))))) (c,s,t,o,())).bind λi=>match i with
 |.inl (E,F,w,_)=>(some (.inl (ar (c+(if(ar (a-c))<e then ar (a-c) else e)),E,F,w,())))
 |.inr j=>some j) else some (.inr (.inl (s,t,o,())))) (0,C,D,(d,((d.1,(a,(List.replicate y (0:Int),()))),(List.replicate z (false,((false,([],())),((0:Int),()))),()))),())).bind λi=>match i with
 |.inl (_,_,q,_)=>((AH (some q,a,())).bind λ(A,r,_)=>cond (r !=0) (some (((0:Int),((0:Int),(([]:aN),()))),((0:Int),((0:Int),(([]:gF),()))),0,r,())) (some (q.2.1,A,a,0,())))
 |.inr j=>some j))
def AA:(hj×(Int×(Int×(aN×bq)))×lD×Unit)->Option (hj×Unit):=λ(k,c,h,_)=>(loop (σ:=(Int×hj×Unit)) (ρ:=(hj×Unit)) (λ(b,e,_)=>cond (decide (b<c.2.1)) ((aC e.1 b).bind λj=>(loop (σ:=(Int×hj×Unit)) (ρ:=(hj×Unit)) (λ(f,a,_)=>cond (decide (f<ay j)) ((aC j f).bind λs=>(vy (c.2.2.1,s,())).bind λ(p,_)=>(bh (a.2.1).length b).bind λg=>(aC h.2.2.1 (ar (ar (ar (b-c.1)*h.1)+p))).bind λi=>(aZ a.2.1 g λn=>some n).bind λq=>(bN (q.length+([i]).length)).bind λ_=>(bh (a.2.1).length b).bind λd=>cond (Nat.beq g d&&true) ((aZ a.2.1 d λo=>some o).bind λr=>(((aZ a.2.1 d λ_=>some ((a.2.1).set d (r++[i]))).map λt=>(t,a.2.2)).map λu=>(a.1,u)).bind λv=>some (.inl (aY f,v,()))) none) (some (.inr (a,())))) (0,e,())).bind λ(l,_)=>some (.inl (aY b,l,()))) (some (.inr (e,())))) (c.1,k,())).bind λ(m,_)=>
 some (m,())
def oM:(bJ×aN×fv×Unit)->Option nA:=λ(z,r,c,_)=>(rj (z,r,())).bind λ(j,s,_)=>(bif s !=0 then some ((([]:aN),(([]:aN),(([]:aN),(([]:aN),())))),0,s,()) else j.bind λZ=>(tj (Z.2.1,c,())).bind λ(t,_)=>bif t !=0 then some ((([]:aN),(([]:aN),(([]:aN),(([]:aN),())))),0,t,()) else((loop (σ:=(Int×es×Unit)) (ρ:=((es×Unit)⊕nA)) (λ(l,w,_)=>cond (decide (l<ay c)) ((aC c l).bind λab=>cond (decide (ay ab.2.2.1>64)) (some (.inr (.inr ((([]:aN),(([]:aN),(([]:aN),(([]:aN),())))),0,6,())))) (some (.inl (aY l,w,())))) (some (.inr (.inl (w,()))))) (0,([],([],([],([],())))),())).bind λe=>match e with
 |.inl (T,_)=>((xk (j,())).bind λ(N,_)=>(dV (ay c) (ay c)).bind λL=>(dV (ay c) (ay c)).bind λM=>(loop (σ:=(Int×es×hj×List fv×List (List e6)×Unit)) (ρ:=((es×hj×Unit)⊕nA)) (λ(g,m,n,b,d,_)=>bif decide (g<ay c) then(Option.bind (α:=(es×hj×List fv×List (List e6)×Unit)⊕((Int×es×hj×List fv×List (List e6)×Unit)⊕((es×hj×Unit)⊕nA))) ((aC c g).bind λa=>(bh b.length g).bind λJ=>(bh d.length g).bind λK=>(aZ b J λD=>some D).bind λx=>(aZ d K λE=>some E).bind λy=>(AV (j,a,x,y,())).bind λ(O,u,_)=>bif u !=0 then some (.inr (.inr (.inr ((([]:aN),(([]:aN),(([]:aN),(([]:aN),())))),0,u,())))) else(AF (O,ar (a.2.1-a.1),8,())).bind λ(P,v,Q,k,_)=>bif k==231 then some (.inr (.inr (.inr ((([]:aN),(([]:aN),(([]:aN),(([]:aN),())))),ar (a.1+Q),k,())))) else bif k !=0 then
 some (.inr (.inr (.inr ((([]:aN),(([]:aN),(([]:aN),(([]:aN),())))),0,k,())))) else(AA (n,a,P,())).bind λ(q,_)=>cond (decide (a.2.2.2.1>=0)) ((bh b.length a.2.2.2.1).bind λo=>(aZ b o λF=>some F).bind λV=>(bN (V.length+([a]).length)).bind λ_=>(bh d.length a.2.2.2.1).bind λp=>(aZ d p λG=>some G).bind λW=>(bN (W.length+([v]).length)).bind λ_=>(bh b.length a.2.2.2.1).bind λh=>cond (Nat.beq o h&&true) ((aZ b h λH=>some H).bind λX=>(aZ b h λ_=>some (b.set h (X++[a]))).bind λam=>(bh d.length a.2.2.2.1).bind λi=>cond (Nat.beq p i&&true) ((aZ d i λI=>some I).bind λY=>(aZ d i λ_=>some (d.set i (Y++[v]))).bind λan=>some (.inl (m,q,am,an,()))) none) none) (some (.inl (m,q,b,d,())))) λe=>match e with
 |.inl (U,A,C,S,_)=>(some (.inl (aY g,U,A,C,S,())))
 |.inr f=>some f) else some (.inr (.inl (m,n,())))) (0,T,N,List.replicate L [],List.replicate M [],())).bind λe=>match e with
 |.inl (_,B,_)=>((xl (some B,r,())).bind λ(R,_)=>j.bind λad=>some (R,ad.1,0,()))
 |.inr f=>some f)
 |.inr f=>some f))
def vH:(bJ×aN×fv×Unit)->Option bq:=λ(c,d,b,_)=>(yh (c,d,())).bind λ(aR,_)=>(bif aR !=0 then some (aR,()) else(yg (c,d,())).bind λ(h,_)=>(th (h,b,())).bind λ(e,_)=>bif e !=0 then some (e,()) else((loop (σ:=bq) (ρ:=lA) (λ(a,_)=>cond (decide (a<ay b)) ((aC b a).bind λi=>cond (decide (ay i.2.2.1>64)) (some (.inr (.inr (6,())))) (some (.inl (aY a,())))) (some (.inr (.inl ())))) (0,())).bind λf=>match f with
 |.inl _=>(some (0,()))
 |.inr g=>some g))
def ri:(bJ×aN×fv×Unit)->Option nA:=λ(a,b,c,_)=>(vH (a,b,c,())).bind λ(aR,_)=>(cond (aR !=0) (some ((([]:aN),(([]:aN),(([]:aN),(([]:aN),())))),0,aR,())) ((BU (a,b,())).bind λ(d,e,f,_)=>some (d,e,f,())))
def E4:(aN×Int×Int×Int×Int×Unit)->Option eV:=λ(o,B,M,L,j,_)=>(xR (o,B,0,true,())).bind λ(c,h,_)=>(xO (c,h,o,())).bind λ(a,_)=>Option.bind (α:=(bJ×fv×Unit)) (bif decide (ay a>0) then(mU (M,ay a,())).bind λ(K,_)=>(bh a.length K).bind λb=>(mU (j,5,())).bind λ(f,_)=>(mU (L,4,())).bind λ(g,_)=>bif g==0 then(aZ a b λp=>some p.1).bind λO=>(aZ a b λq=>some (a.set b (ar (O+ar (f-2)),q.2))).bind λS=>some (c,S,()) else bif g==1 then(aZ a b λr=>some r.2.1).bind λP=>(aZ a b λk=>some (a.set b (k.1,(ar (P+ar (f-2)),k.2.2)))).bind λT=>some (c,T,()) else bif g==2 then(aZ a b λs=>some s.2.2.2.1).bind λQ=>(aZ a b λe=>some (a.set b (e.1,(e.2.1,(e.2.2.1,(ar (Q+ar (f-2)),e.2.2.2.2)))))).bind λU=>some (c,U,()) else
 (aZ a b λt=>some t.2.2.1).bind λN=>(mU (j,ay N,())).bind λ(n,_)=>((aZ a b λu=>some u.2.2.1).bind λv=>bh v.length n).bind λA=>(aZ a b λw=>aZ w.2.2.1 A λx=>some x).bind λR=>((aZ a b λy=>some y.2.2.1).bind λz=>bh z.length n).bind λl=>(aZ a b λd=>((((aZ d.2.2.1 l λ_=>some ((d.2.2.1).set l (ar (R+ar (f-2))))).map λV=>(V,d.2.2.2)).map λW=>(d.2.1,W)).map λX=>(d.1,X)).map λY=>a.set b Y).bind λZ=>some (c,Z,()) else some (c,a,())) λ(i,m,_)=>(oM (i,h,m,())).bind λ(C,D,E,_)=>(ri (i,h,m,())).bind λ(F,G,H,_)=>(cond ((E==H)==true) (cond ((D==G)==true) ((Bs (C,F,())).bind λ(I,_)=>cond (I==true) ((Bv ()).bind λ(J,_)=>some (J,())) (some (false,()))) (some (false,()))) (some (false,())))
end Go.h2
section
namespace Go.Proofs
open Go.RowKit Go.Shelf Go.Sort
attribute [local go_sem] Oper.semAt_some
def Tryz.TS:Go.Shelf.Ren:=⟨λ|20=>275|n=>n,λ|22=>23|3=>3|4=>4|0=>0|n=>n,λ|n=>n⟩
def Tryz.K8:Lays2.n20 Tryz.prog Tryz.TS where
 mixed:=by kernel_rfl
 f20:=Tryz.func275.trans (congrArg some (by kernel_rfl))
 t0:=Tryz.underlying0
 a0:=Tryz.isAgg0
 z0:=Tryz.sizeOf0
 v0:=Tryz.zeroValue0
 t3:=Tryz.underlying3
 a3:=Tryz.isAgg3
 z3:=Tryz.sizeOf3
 v3:=Tryz.zeroValue3
 t4:=Tryz.underlying4
 a4:=Tryz.isAgg4
 z4:=Tryz.sizeOf4
 v4:=Tryz.zeroValue4
 t22:=Tryz.underlying23
 a22:=Tryz.isAgg23
 z22:=Tryz.sizeOf23
 v22:=Tryz.zeroValue23
 i3:=by kernel_rfl
namespace Ir
def lm {a:Type} (b:Nat->a) (c:Nat):List a:=(List.range c).map b
def OV {c:Type} (a:Nat->c) (b:Nat):lm a (b+1)=lm a b++[a b]:=by simp[lm,iP]
def aac {c:Type} (b:Nat->c) (a:Nat):(lm b a).length=a:=by simp[lm]
def aab (a:ad5):lm (λc=>a[c]?.getD 0) a.length=a:=by
 apply List.ext_getElem
 ·simp[lm]
 intro e d b;simp[lm,b]
set_option maxRecDepth 100000 in
set_option maxHeartbeats 2000000 in
def aal (j:Fence) (m:Nat) (A:j.fn 290) (K:j.round=none) (T:1<=m) (v q n h k b x:Nat) (g:ad5) (V:b*8<=140737488351232) (F:h<n) (J r:ad5->World->Prop) (E:∀e o c,J e c->e.length<b->YieldAt j (m-1) Tryz.prog v #[.int .i64 o] c λi f=>
  (i=.returned (.bool true)/\J (e++[o]) f/\Below n c f)\/(i=.returned (.bool false)/\r (e++[o]) f))
 (c:World) (Q:c.cell? ⟨q,0,none⟩=some (.slice (some ⟨h,k,none⟩) b x)) (G:∀d,d<b->c.cell? ⟨h,k+d,none⟩=some (.int .i64 (g[d]?.getD 0))) (z:J [] c):
 CallsIn j m Tryz.prog 290 #[.func (.yield v) #[] #[],.pointer (some ⟨q,0,none⟩)] c λi f=>(∃L,i=.returned L)/\((∃w,w=lm (λd=>g[d]?.getD 0) b/\J w f)\/(∃e,(∃a,a<=b/\e=lm (λd=>g[d]?.getD 0) a)/\r e f)):=by
 refine callsIn_of_wp Tryz.func290 rfl A ?_ K;simp only[Tryz.ntmps290,qP,im,pB,Nat.reduceAdd,Nat.reduceSub,uE,uF,uO,uL,hC,jb]
 gi_wp2
 gi_loopw [7] (λl wr=>∃a:Nat,a<=b/\l=.int .i64 a/\J (lm (λd=>g[d]?.getD 0) a) wr/\Below n c wr) (λl _=>b-(intOf l).toNat)
 case atStart=>exact⟨0,bE _,rfl,z,Below.refl _ _⟩
 case round=>
  obtain⟨a,S,rfl,s,u⟩:=hrel;have H:a<b->wr.cell? ⟨h,k+a,none⟩=some (.int .i64 (g[a]?.getD 0)):=λy=>(u.cell (p:=⟨h,k+a,none⟩) F).trans (G a y);by_cases t:a<b
  ·obtain⟨P,X,N,O,W,D⟩:=E _ (g[a]?.getD 0) wr s (by rw[aac];exact t);have R:=H t
   gi_wp2
   refine D.mono ?_;rintro i M (⟨rfl,B,I⟩|⟨rfl,C⟩)
   ·gi_wp2
    go_roundw
    case rel=>exact⟨a+1,U,ac,by rw[OV];exact B,u.trans I⟩
    case measure=>simp[intOf];omega
   gi_wp2
   refine bodyPost_ret (results_none rfl _ _ _) rfl ?_;exact⟨⟨_,rfl⟩,.inr ⟨_,⟨a+1,U,(OV _ _).symm⟩,C⟩⟩
  obtain rfl:a=b:=by omega
  gi_wp2
  go_end0
  exact⟨⟨_,rfl⟩,.inl ⟨_,rfl,s⟩⟩
def aad (a:ad5) {b:Nat} (d:b<=a.length):lm (λf=>a[f]?.getD 0) b=a.take b:=by
 apply List.ext_getElem
 ·simp[lm,d]
 intro e c g;have:e<a.length:=(by simp[lm] at c;omega);simp[lm,this]
def od (i:Nat) (g:World) (f:Value) (a:ad5):Prop:=
 (∃h c,f=.slice h 0 c/\a=[])\/∃b e c,f=.slice (some ⟨b,e,none⟩) a.length c/\b<i/\∀d,d<a.length->g.cell? ⟨b,e+d,none⟩=some (.int .i64 (a[d]?.getD 0))
def od.below {b:Nat} {c d:World} (l:Below b c d) {i:Value} {j:ad5}:od b c i j->od b d i j
 |.inl a=>.inl a
 |.inr ⟨e,h,k,a,f,m⟩=>.inr ⟨e,h,k,a,f,λg n=>(l.cell (p:=⟨e,h+g,none⟩) f).trans (m g n)⟩
set_option maxRecDepth 100000 in
set_option maxHeartbeats 1000000 in
def aam (a:Fence) (n:Nat) (i:a.fn 290) (k:a.round=none) (m c:Nat) (e:Option Addr) (f:Nat) (J:ad5->World->Prop) (b:World) (p:b.cell? ⟨c,0,none⟩=some (.slice e 0 f)) (h:J [] b):CallsIn a n Tryz.prog 290 #[.func (.yield m) #[] #[],.pointer (some ⟨c,0,none⟩)] b λg d=>(∃o,g=.returned o)/\J [] d:=by
 refine callsIn_of_wp Tryz.func290 rfl i ?_ k;simp only[Tryz.ntmps290,qP,im,pB,Nat.reduceAdd,Nat.reduceSub,uE,uF,uO,uL,hC,jb]
 gi_wp2
 gi_loopw [7] (λl wr=>l=.int .i64 0/\J [] wr) (λ_ _=>0)
 case atStart=>exact⟨rfl,h⟩
 case round=>
  obtain⟨rfl,j⟩:=hrel
  gi_wp2
  go_end0
  exact⟨⟨_,rfl⟩,j⟩
set_option maxHeartbeats 1000000 in
def aan (a:Fence) (i:Nat) (g:a.fn 277) (h:a.round=none) (c:Option Addr) (e d:Nat) (b:World):CallsIn a i Tryz.prog 277 #[.slice c e d] b λf j=>f=.returned (.func (.func 290) #[] #[.pointer (some ⟨b.heap.size,0,none⟩)])/\j=b.alloc (.cells #[.slice c e d] 23):=by
 refine callsIn_of_wp Tryz.func277 rfl g ?_ h;simp only[Tryz.ntmps277,qP,im,pB,Nat.reduceAdd,Nat.reduceSub,uE,uF,uO,uL,hC,jb]
 gi_wp2
 go_ret
 exact⟨rfl,rfl⟩
def aao (c:Fence) (g:Nat) (l:c.fn 290) (o:c.round=none) (G:1<=g) (b h:Nat) (s:Value) (a:ad5) (I:a.length*8<=140737488351232) (e:World) (z:b<e.heap.size) (H:h<=e.heap.size) (D:e.cell? ⟨b,0,none⟩=some s) (A:od h e s a):SeqStopsK c g Tryz.prog 290 #[.pointer (some ⟨b,0,none⟩)] (λL:Int=>#[Value.int .i64 L]) (Below h) (λt=>t=a) (λr=>r<+:a) a.length e:=λq J u j m _ _ B k=>by
 have n:=(m.cell (p:=⟨b,0,none⟩) z).trans D;rcases A.below (m.mono H) with⟨w,i,rfl,rfl⟩|⟨x,K,i,rfl,C,E⟩
 ·exact(aam c g l o q b w i J j n k).mono λy v ⟨f,d⟩=>⟨f,.inl ⟨_,rfl,d⟩⟩
 refine(aal c g l o G q b h x K a.length i a I C J u B j n E k).mono ?_;rintro y v ⟨f,⟨t,rfl,d⟩|⟨r,⟨M,F,rfl⟩,d⟩⟩
 ·exact⟨f,.inl ⟨_,aab a,d⟩⟩
 exact⟨f,.inr ⟨_,by rw[aad a F];exact List.take_prefix _ _,d⟩⟩
def Tr:(Tryz.prog.info? 3).map (λa=>(a.zero,a.size,a.bytes))=some (some (.int .i64 0),1,8):=by kernel_rfl
set_option maxRecDepth 100000 in
set_option maxHeartbeats 2000000 in
def Qo (g:Fence) (m:Nat) (E:g.fn 299) (u:g.fn 290) (q:g.round=none) (ap:3<=m) (e:Nat) (r:Value) (f:ad5) (M:f.length*8<=140737488351232) (a:World) (F:e<a.heap.size) (o:a.cell? ⟨e,0,none⟩=some r) (H:od a.heap.size a r f):CallsIn g m Tryz.prog 299 #[.slice none 0 0,.func (.func 290) #[] #[.pointer (some ⟨e,0,none⟩)]] a λB t=>∃b,B=.returned b/\t.ownsRow a.heap.size 3 1 b f.length (f.map (Value.int .i64))/\(b=.slice none 0 0↔f=[])/\Below a.heap.size a t:=by
 have D:1<=m:=U;obtain⟨S,J,P,Q,R⟩:=info_parts Tr;refine callsIn_of_wp_marks Tryz.func299 rfl E ?_ q;simp only[Tryz.ntmps299,qP,im,pB,Nat.reduceAdd,Nat.reduceSub,uE,uF,uO,uL,hC,jb]
 gi_wp2
 have A:=Boxed.new a 23 (.slice none 0 0);have n:Below a.heap.size a (a.alloc (.cells #[.slice none 0 0] 23)):=(Below.refl _ a).alloc (a2 _) _;refine wpIn_rangeFunc_ownG q D (gf:=290) (lb:=#[.pointer (some ⟨e,0,none⟩)]) rfl u (enters_of Tryz.func290 (by kernel_rfl) rfl) (aao g (m-1) u q U e a.heap.size r f M _ (by simp;omega) ac ((n.cell (p:=⟨e,0,none⟩) F).trans o) (H.below n)) belowK_t (belowK_b ac) (Below.refl _ _) (λ_=>rfl) (λc d=>(∃b,Boxed d a.heap.size 23 b/\d.ownsRow a.heap.size 3 1 b c.length (c.map (Value.int .i64))/\(b=.slice none 0 0↔c=[]))/\Below a.heap.size a d) (λ_ _ _=>False) (OwnFrom.and (Own.from (holdsRow_own a.heap.size a.heap.size 23 3 1 (λc=>c.length) (λc=>c.map (Value.int .i64)) (λc b=>b=.slice none 0 0↔c=[])) _) (ownFrom_below (a2 _) ac)) (λ_ _ _ _ _ N _ _=>N) ⟨⟨_,A,World.ownsRow_nil _ _ _ _,ac⟩,n⟩ (λj=>{tmps:=#[.slice none 0 0,.func (.func 290) #[] #[.pointer (some ⟨e,0,none⟩)],.pointer (some ⟨a.heap.size,0,none⟩),undef,.slice none 0 0,.int .i64 j,.func (.func 290) #[] #[.pointer (some ⟨e,0,none⟩)],.int .i64 j,undef,undef,undef,undef,undef],defers:=[]}) ?assign ?body ?done ?stop
 case assign=>
  intro T j d V i
  gi_wp2
  exact i
 case body=>
  rintro T c j d ⟨⟨b,l,k,x⟩,h⟩ an;have o:=l.cell;have am:f.length<=maxLen:=(by simp only[maxLen];omega);have Z:f.length*8<=140737488355328:=by omega
  gi_wp2_with (gi_at_builtin;refine wpListIn_append_own _ rfl _ _ 23 rfl a.heap.size 3 S (.int .i64 0) 1 8 Tryz.underlying23 J P Q R rfl aa _ _ _ rfl (k.alloc _) ⟨d.heap.size,0,none⟩ 1 1 [.int .i64 j] rfl rfl (cell_one_new _ _ _) (by simp[Value.oneCell']) U U (by have:=h.size;simp;omega) ?_;intro av a0 y I _;obtain⟨Y,X,rfl⟩:=ownsRow_succ y;obtain⟨z,O,L,K,v⟩:=l.appended aa k h.size (a2 _) y I;have ab:=z.cell;have ad:=z.frozen)
  exact⟨K.from _,v,⟨_,O,by simpa using L,ac⟩,h.trans v⟩
 case done=>
  rintro s a3 d G rfl ⟨⟨b,l,k,x⟩,h⟩ i;have o:=l.cell
  gi_wp2
  refine⟨ac,.inl ⟨_,_,rfl,run_takeDeferred i,?_⟩⟩;exact⟨_,results_tmp rfl _ _ _,b,rfl,ownsRow_putObj k _ i rfl,x,h.trans (belowK_b (w:=a) (a2 _) d s _ _ (by simp at G;omega) i rfl rfl)⟩
 case stop=>
  rintro s W c d _ _ C _;exact C.elim
set_option maxHeartbeats 1000000 in
def Rl (b:Fence) (f:Nat) (m:b.fn 288) (k:b.fn 299) (l:b.fn 290) (j:b.round=none) (v:4<=f) (e:Nat) (g:Value) (c:ad5) (s:c.length*8<=140737488351232) (a:World) (n:e<a.heap.size) (q:a.cell? ⟨e,0,none⟩=some g) (o:od a.heap.size a g c):CallsIn b f Tryz.prog 288 #[.func (.func 290) #[] #[.pointer (some ⟨e,0,none⟩)]] a λi h=>∃d,i=.returned d/\h.ownsRow a.heap.size 3 1 d c.length (c.map (Value.int .i64))/\(d=.slice none 0 0↔c=[])/\Below a.heap.size a h:=by
 have u:1<=f:=U;refine callsIn_of_wp Tryz.func288 rfl m ?_ j;simp only[Tryz.ntmps288,qP,im,pB,Nat.reduceAdd,Nat.reduceSub,uE,uF,uO,uL,hC,jb]
 gi_wp2_with (gi_at_call 299;refine(Qo b (f-1) k l j U e g c s _ n q o).mono ?_;rintro i w ⟨d,rfl,t,r,p⟩)
 go_ret
 exact⟨d,rfl,t,r,p⟩
open Go.h2
theorem Yv {M:dg->Nat->Prop} {f:World} {k:Nat} {j:Value} {b:ad5} (s:f.ownsRow k 3 1 j b.length (b.map (Value.int .i64))):∃d,aT M f (.osl (.int .i64)) [j] b d/\d.Nodup/\∀h∈d,k<=h/\h<f.heap.size:=by
 rcases s.2 with⟨rfl,t⟩|⟨e,l,i,rfl,w,q,u,A,v,m⟩
 ·obtain rfl:=lX t;exact⟨[],⟨none,0,rfl,.inl ⟨rfl,rfl,rfl,rfl⟩⟩,ac,ac⟩
 rw[Nat.mul_one] at v m;have o:∀a,a<l->f.cell? ⟨e,a,none⟩=some (i[a]?.getD undef)/\f.frozen? ⟨e,a,none⟩=false:=λa c=>(by constructor<;>simp[World.cell?,World.frozen?,q,(U:a<i.size)]);refine⟨[e],⟨some ⟨e,0,none⟩,l,rfl,.inr ⟨e,0,List.replicate b.length [],rfl,ac,ac,u,λa _ c=>?_,λg z d r p=>?_⟩⟩,ac,λh n=>?_⟩
 ·obtain⟨ax,y⟩:=o a (by simpa[aj.size] using c);exact⟨by rw[ax];rfl,y⟩
 ·have x:g<b.length:=(eT.1 r).1;obtain rfl:d=[]:=by
   rw[lY] at p;split at p<;>simp_all
  refine⟨[.int .i64 z],rfl,λa j c=>?_,rfl,rfl⟩;cases a with
  |succ a=>simp at c
  |zero=>
   simp only[j4,bS] at c;subst c;simp only[aj.size,Nat.mul_one,jg,j6];rw[(o g U).1];have:(i.toList.take b.length)[g]?=(b.map (Value.int .i64))[g]?:=(by rw[m]);rw[l0 x,wJ,fB,r] at this;rw[this];rfl
 simp only[eI] at n;subst n;exact⟨w,(nm.1 q).1⟩
def Tl {o:dg->Nat->Prop} {n:World} {i:Value} {a:ad5} {k:ad4} (g:aT o n (.osl (.int .i64)) [i] a k):(∃j b,i=.slice j 0 b/\a=[])\/∃c e b,i=.slice (some ⟨c,e,none⟩) a.length b/\a.length<=b/\Holds (Value.int .i64) n c e a.toArray/\k=[c]:=by
 obtain⟨j,b,m,g⟩:=g;simp only[gu,and_true] at m;subst m;rcases g with⟨rfl,rfl,rfl,rfl⟩|⟨c,e,f,rfl,rfl,A,s,t,l⟩
 ·exact .inl ⟨none,0,rfl,rfl⟩
 right;have u:f.flatten=[]:=by
  rw[List.flatten_eq_nil_iff];intro C x;obtain⟨h,B,rfl⟩:=fC.1 x;obtain⟨r,_,_,y⟩:=l h (a[h]'(by omega)) f[h] ac ac
  exact y.1
 refine⟨c,e,b,rfl,s,λd v=>?_,by rw[u]⟩;have w:d<a.length:=(by simpa using v);obtain⟨r,z,p,_,q⟩:=l d a[d] (f[d]'(by omega)) ac ac
 subst q;have ax:=p 0 _ rfl;simp only[aj.size,Nat.mul_one,j6] at ax;exact⟨by rw[ax];simp[w],(t (e+d) U (by simp only[aj.size];omega)).2⟩
def Ea (E:eh) (c:ad5->adQ):Prop:=∀b a,c b=some a->qD E 289 [.m ⟨.osl (.int .i64),b⟩ a] []
set_option maxRecDepth 100000 in
set_option maxHeartbeats 2000000 in
def Zp (i:Fence) (h:∀e,i.fn e) (z:i.round=none) (O:∀(ab:Nat) (e:FuncId) (v:adW) (c:World) (t:Ending->World->Prop),Calls Tryz.prog e v c t->CallsIn i ab Tryz.prog e v c t) {E:eh} (I:E.P=Tryz.prog) {C:ad5->adQ} (Y:Ea E C) (k:Nat) (av:5<=k) (m:Nat) (r:Value) (l s:ad5) (Z:C l=some s) (W:l.length*8<=140737488351232) (c:World) (J:j2 E (λb=>b<c.heap.size) c) (H:m<c.heap.size) (N:c.cell? ⟨m,0,none⟩=some r) (K:od c.heap.size c r l):CallsIn i k Tryz.prog 276 #[.func (.func 290) #[] #[.pointer (some ⟨m,0,none⟩)]] c λp u=>∃g e D,p=.returned g/\aT D u (.osl (.int .i64)) [g] s e/\(∀b∈e,c.heap.size<=b)/\Below c.heap.size c u:=by
 have ap:1<=k:=U;have a0:=h 288;have a3:=h 289;refine callsIn_of_wp Tryz.func276 rfl (h _) ?_ z;simp only[Tryz.ntmps276,qP,im,pB,Nat.reduceAdd,Nat.reduceSub,uE,uF,uO,uL,hC,jb]
 gi_wp2_with (first
  |(
   gi_at_call 288;refine(Rl i (k-1) (h _) (h _) (h _) z U m r l W _ H N K).mono ?_;rintro p F ⟨g,rfl,A,T,d⟩
   obtain⟨e,V,S,o⟩:=Yv (M:=bj (λ_=>False) (λ_=>False)) A;have n:=Y l s Z F (λb=>b<c.heap.size) (λ_=>False) [g] [e] (λb a=>by rcases a with a|a;exact he a d.size;exact a.elim) ⟨⟨[g],rfl,V⟩,trivial⟩ (by simpa using S) (λb d=>⟨Nat.not_lt.2 (o b (by simpa using d)).1,λa=>a,(o b (by simpa using d)).2⟩) True.intro (J.mono (λ_ a=>a) λb a=>d.block b a);rw[I] at n;have n:=O (k-1) _ _ _ _ n;clear A T)
  |(gi_at_call 289;refine n.mono ?_;rintro p am ⟨ad,w,a4,B,rfl,f⟩))
 have Q:∃j,w=[j]:=by
  have:=f.args
  match w,this with
  |[j],_=>exact⟨j,rfl⟩
  |[],a=>exact a.elim
  |_::_::_,a=>exact a.2.elim
 obtain⟨j,rfl⟩:=Q;obtain⟨an,al,y⟩:=f.args.1;have R:=y.len;obtain⟨G,rfl⟩:=uN.1 R;have al:g=G:=al;subst al;have X:B=[]:=by
  have:=f.res
  match B,this with
  |[],_=>rfl
  |_::_,a=>exact a.elim
 subst X
 go_ret
 refine⟨g,j,_,rfl,y,λb L=>?_,?_⟩
 ·have:=(f.Jd b (by simp[L])).2.2.2;rcases this with a|a
  ·exact dh d.size a
  exact(o b (by simpa using a)).1
 exact⟨f.os.trans d.os,f.tape.trans d.tape,f.output.trans d.output,dh d.size f.size,λq x=>(f.heap q (he x d.size) (λa=>by have:=(o q (by simpa using a)).1;omega)).trans (d.block q x)⟩
def Rs {j:dg->Nat->Prop} {b:World} {B:Nat} {i:Value} {e:ad5} {h:ad4} (n:aT j b (.osl (.int .i64)) [i] e h) (m:∀c∈h,B<=c) (r:e.length<=1000000):Calls Tryz.prog 275 #[i] b (λf g=>∃d a,f=.returned (.slice d (Lib.compact e).length a)/\Below B b g):=by
 rcases Tl n with⟨d,a,rfl,rfl⟩|⟨c,p,a,rfl,l,k,rfl⟩
 ·refine(Any.slices_Compact_int_empty Tryz.K8 d a b).mono ?_;rintro f g ⟨rfl,rfl⟩;exact⟨d,a,rfl,Below.refl _ _⟩
 refine(Any.slices_Compact_int Tryz.K8 c p a e b k U l).mono ?_;rintro f g ⟨rfl,s,rfl⟩;refine⟨_,a,rfl,rfl,rfl,rfl,by simp[putRow,mapBlock,Sort.ahead],λo q=>?_⟩;have:=m c ac;simp[putRow,mapBlock,Sort.ahead,wI,(U:c≠o)]
set_option maxRecDepth 100000 in
set_option maxHeartbeats 2000000 in
def ZY (g:Fence) (i:∀k,g.fn k) (p:g.round=none) (t:∀(S:Nat) (k:FuncId) (r:adW) (a:World) (q:Ending->World->Prop),Calls Tryz.prog k r a q->CallsIn g S Tryz.prog k r a q) {E:eh} (F:E.P=Tryz.prog) {x:ad5->adQ} (O:Ea E x) (j:Nat) (ad:7<=j) (c:Option Addr) (b e:Nat) (f m:ad5) (R:x f=some m) (N:f.length=b) (av:f.length<=1000000) (Q:m.length<=1000000) (a:World) (G:j2 E (λd=>d<a.heap.size) a) (H:od a.heap.size a (.slice c b e) f):CallsIn g j Tryz.prog 249 #[.slice c b e] a λh z=>h=.returned (.bool (decide ((Lib.compact m).length<f.length)))/\Below a.heap.size a z:=by
 have ab:1<=j:=U;have am:=i 277;have an:=i 276;have ap:=i 275;generalize M:(Lib.compact m).length=Z;refine callsIn_of_wp Tryz.func249 rfl (i _) ?_ p;simp only[Tryz.ntmps249,qP,im,pB,Nat.reduceAdd,Nat.reduceSub,uE,uF,uO,uL,hC,jb];have C:=Boxed.new a 23 (.slice c b e);have n:Below a.heap.size a (a.alloc (.cells #[.slice c b e] 23)):=(Below.refl _ a).alloc (a2 _) _;have I:od (a.alloc (.cells #[.slice c b e] 23)).heap.size (a.alloc (.cells #[.slice c b e] 23)) (.slice c b e) f:=by
  rcases H.below n with l|⟨d,T,D,h,o,L⟩
  ·exact .inl l
  exact .inr ⟨d,T,D,h,by simp;omega,L⟩
 have w:=Zp g i p t F O (j-1) U a.heap.size (.slice c b e) f m R U _ (G.mono (λd (l:d<a.heap.size)=>he l n.size) λd l=>n.block d l) ac C.cell I
 gi_wp2_with (first
  |(gi_at_call 277;refine(aan g (j-1) (i _) p c b e a).mono ?_;rintro h a3 ⟨rfl,rfl⟩)
  |(gi_at_call 276;refine w.mono ?_;rintro h y ⟨a0,k,V,rfl,v,u,o⟩;have s:=t (j-1) _ _ _ _ (Rs (B:=a.heap.size) v (λd J=>by have:=u d J;simp at this;omega) Q);rw[M] at s;have A:Below a.heap.size a y:=n.trans (o.mono ac);clear v u o w)
  |(gi_at_call 275;refine s.mono ?_;rintro h W ⟨X,Y,rfl,K⟩))
 go_ret
 exact⟨by rw[N];rfl,A.trans K⟩
def ZV (c:ad5->adQ):ik:=⟨249,[.v (.bb .dt (.int .i64))],[.bool],λa=>(zA c a.1).map λb=>(b,())⟩
def ZW {E:eh} (q:E.P=Tryz.prog) {sort:ad5->adQ} (K:Ea E sort):aE E (ZV sort):=by
 refine⟨λg f=>by rw[q];exact Tryz.call249 g f,?_⟩;rintro⟨d,_⟩ b c;have w:(zA sort d).map (λb=>(b,()))=some b:=c;obtain⟨B,e,rfl⟩:=er.1 w;clear c w;unfold zA at e;cases l:Nat.ble d.length 1000000 with
 |false=>rw[l] at e;cases e
 |true=>
 rw[l] at e;obtain⟨s,M,e⟩:=dp.1 e;cases m:Nat.ble s.length 1000000 with
 |false=>rw[m] at e;cases e
 |true=>
 rw[m] at e;have c:decide ((Lib.compact s).length<d.length)=B:=ee e;subst c;have l:=e4 l;have m:=e4 m;rintro f t A g k u h Z Y _hself;have h:kZ (wF t A f) [.v ⟨.bb .dt (.int .i64),d⟩] g k:=h;obtain⟨p,j,rfl,rfl⟩:∃p j,g=[p]/\k=[j]:=by
  cases g with
  |nil=>exact h.elim
  |cons p g=>
   cases k with
   |nil=>exact h.elim
   |cons j k=>
    have a:=h.2;cases g with
    |nil=>cases k with
     |nil=>exact⟨p,j,rfl,rfl⟩
     |cons=>exact a.elim
    |cons=>exact a.elim
 obtain⟨⟨rfl,S,rfl,J⟩,_⟩:=h;obtain⟨_,o,i,rfl,X,ab,I⟩:=J;have G:od f.heap.size f (.slice o d.length i) d:=by
  rcases I with a|⟨b,O,rfl,H,L⟩
  ·exact .inl ⟨o,i,by rw[show d=[] from a];rfl,a⟩
  refine .inr ⟨b,O,i,rfl,u b H,λy x=>?_⟩;obtain⟨V,T,C,_,D⟩:=L y d[y] (by simp[x]);subst D;have z:=C 0 _ rfl;simp only[aj.size,Nat.mul_one,j6] at z;rw[z];simp[x]
 intro F;have a:=ZY Fence.wide (λ_=>trivial) rfl (λN j R f Q a=>(callsIn_wide (n:=N)).2 a) q K 10 U o d.length i d s M rfl l m f (F.mono (λb a=>u b (.inl a)) λ_ _=>rfl) G;have a:=callsIn_wide.1 a;show Calls E.P 249 #[.slice o d.length i] f _;rw[q];refine a.mono ?_;rintro W ad ⟨rfl,c⟩;refine⟨t,[[]],[[]],[.bool _],rfl,⟨⟨rfl,trivial⟩,⟨⟨[.bool _],rfl,rfl,rfl⟩,trivial⟩,ac,ac,λ_ a=>a,λ_ a=>.inl a,c.size,c.os,c.tape,c.output,λb r=>.of_heap (c.block b r),λb r _=>c.block b r⟩⟩
end Ir
end Go.Proofs
end
namespace Go.h2
variable{a c:Nat}{b:ad5}{d:Type}{e:Int}{f:Value}{g:List fQ}{h:List aj}{i:World}{j:List ResultVar}{k:dg->Nat->Prop}{l:Func}{m:Nat->Prop}
section
open Go.Proofs
open Tryz
abbrev ey:aj:=(.int .u32)
abbrev ef:aj:=(.bb .bK ey)
abbrev bM:aj:=(.st (.pr .bool (.pr ef .nil)))
abbrev aF:aj:=(.int .i64)
abbrev bP:aj:=(.st (.pr .bool (.pr bM (.pr aF .nil))))
abbrev iv:aj:=(.osl aF)
abbrev bV:aj:=(.int .u64)
abbrev It:aj:=(.pr iv (.pr iv (.pr (.osl bV) .nil)))
abbrev ea:aj:=(.bb .dt aF)
abbrev kD:aj:=(.bb .dt bV)
abbrev Iu:aj:=(.pr ea (.pr ea (.pr kD .nil)))
abbrev hE:aj:=(.bb .bK aF)
abbrev Iv:aj:=(.pr hE (.pr hE (.pr (.bb .bK bV) .nil)))
abbrev Ac:aj:=(.osl bP)
abbrev w4:aj:=(.st (.pr aF (.pr aF (.pr Ac .nil))))
abbrev mN:aj:=(.st (.pr aF (.pr aF (.pr ea (.pr aF .nil)))))
abbrev Ix:aj:=(.osl (.osl bV))
abbrev Ae:aj:=(.optr (.st (.pr (.bb .bK hE) (.pr Ix (.pr (.osl (.mp bP)) (.pr (.osl iv) .nil))))))
abbrev oz:aj:=(.st (.pr aF (.pr aF (.pr (.bb .bK bP) .nil))))
abbrev mM:aj:=(.st (.pr aF (.pr aF (.pr bV .nil))))
abbrev z7:aj:=(.st (.pr aF (.pr aF (.pr (.osl bV) .nil))))
abbrev u0:aj:=(.st (.pr aF (.pr aF It)))
abbrev PV:aj:=(.optr u0)
abbrev lz:aj:=(.st (.pr (.bb .bK hE) .nil))
abbrev ji:aj:=(.st (.pr (.bb .dt ea) .nil))
abbrev hT:aj:=(.st (.pr aF (.pr aF Iu)))
abbrev uX:aj:=(.st (.pr hE Iv))
abbrev Is:aj:=(.osl (.st (.pr aF (.pr aF (.pr iv (.pr aF .nil))))))
abbrev Ee:aj:=(.osl .bool)
abbrev uY:aj:=(.osl Ee)
abbrev uZ:aj:=(.st (.pr aF (.pr aF Iv)))
abbrev sJ:aj:=(.st (.pr aF (.pr aF (.pr (.bb .dt bP) .nil))))
abbrev z8:aj:=(.st (.pr (.osl hE) .nil))
abbrev j7:aj:=(.osl ey)
abbrev oA:aj:=(.st (.pr .bool (.pr bM (.pr aF (.pr .bool .nil)))))
abbrev PW:aj:=(.optr w4)
abbrev Ad:aj:=(.st (.pr iv It))
abbrev PX:aj:=(.optr Ad)
abbrev PY:aj:=(.optr bP)
abbrev z9:aj:=(.st (.pr aF (.pr aF (.pr (.bb .bK bV) .nil))))
abbrev PZ:aj:=(.ptr .bK bM)
abbrev P0:aj:=(.optr bM)
abbrev Eb:aj:=(.st (.pr ea Iu))
abbrev Ec:aj:=(.optr (.st (.pr iv (.pr iv .nil))))
abbrev Ed:aj:=(.optr (.st (.pr oz (.pr z7 (.pr Ac .nil)))))
abbrev P1:aj:=(.optr (.st (.pr aF (.pr lz (.pr (.osl (.mp bP)) .nil)))))
abbrev P2:aj:=(.ptr .bK hT)
abbrev pH:aj:=(.osl mM)
abbrev P3:aj:=(.ptr .bK bP)
abbrev w3:aj:=(.ptr .dt (.st (.pr aF (.pr ji (.pr (.bb .dt (.dN .dt bP)) .nil)))))
abbrev Ef:aj:=(.optr (.st (.pr uY (.pr Ee .nil))))
abbrev Aa:aj:=(.st (.pr aF (.pr aF (.pr kD .nil))))
abbrev Ab:aj:=(.ptr .bK ji)
abbrev Iw:aj:=(.st (.pr aF (.pr aF (.pr hE (.pr hE (.pr (.osl bV) .nil))))))
abbrev P4:aj:=(.optr uX)
abbrev j8:aj:=(.bb .dt mN)
abbrev P5:aj:=(.optr z7)
abbrev P6:aj:=(.ptr .bK Eb)
def tt:List (Nat×aj):=[(3,aF),(4,.bool),(5,(.int .u8)),(9,.str),(22,(.bb .bK bV)),(23,hE),(25,(.bb .bK bV)),(27,uZ),(31,uX),(39,(.bb .bK hE)),(41,lz),(50,bV),(51,bV),(55,ef),(57,bM),(59,bP),(62,(.bb .bK bP)),(71,z9),(75,oz),(84,(.bb .bK (.st (.pr aF (.pr aF (.pr hE (.pr aF .nil))))))),(90,(.st (.pr aF (.pr aF (.pr hE (.pr aF .nil)))))),(102,(.bb .bK (.dN .bK bP))),(104,(.st (.pr aF (.pr lz (.pr (.bb .bK (.dN .bK bP)) .nil))))),(109,(.bb .bK (.bb .bK bV))),(117,(.bb .bK mM)),(120,mM),(122,(.bb .bK (.bb .bK .bool))),(124,(.bb .bK .bool)),(132,bV),(139,ey),(149,(.bb .bK (.bb .bK bP))),(155,(.bb .bK (.bb .bK (.st (.pr aF (.pr aF (.pr hE (.pr aF .nil)))))))),(156,(.bb .bK (.bb .bK oz))),(158,(.bb .bK oz)),(166,(.dN .bK bP)),(168,(.st (.pr (.bb .bK hE) (.pr (.bb .bK (.bb .bK bV)) (.pr (.bb .bK (.dN .bK bP)) (.pr (.bb .bK hE) .nil)))))),(175,(.st (.pr (.bb .bK (.bb .bK .bool)) (.pr (.bb .bK .bool) .nil)))),(206,(.st (.pr oz (.pr z9 (.pr (.bb .bK bP) .nil))))),(212,(.bb .bK (.bb .bK .bool))),(223,oA),(254,(.st (.pr hE (.pr hE .nil)))),(306,bV)]
def OK:∀a b,au tt a=some b->dP Tryz.prog b a:=OL (by kernel_rfl)
def E:eh:={P:=Tryz.prog,tt:=tt,ok:=OK,mix:=by kernel_rfl,glob:=[⟨0,266,.u8,oI⟩],gok:=S8 OK (S:=5) (by kernel_rfl) (by kernel_rfl)}
def HO:List aj:=[iv,j7,PW,bM,PY,P0,bP,PV,.bool,bV,uY,PZ,pH,Ee,w4,P3,P2,Ac,PX,P4,P5,uX,Is,ef,(.optr uZ),Ab,(.optr z8),Ae,uZ,u0,lz,P6,z7,oz,(.optr lz),Ix,(.optr oz),Ec,Ad,(.osl Ac),P1,hE,(.osl iv),(.ptr .bK sJ),(.optr hT),Ef,(.ptr .bK mN),Ed,(.osl hE),(.optr z9),(.optr hE),z8,(.bb .bK hE),(.ptr .bK oA),z9,mN,mM,(.optr bV),(.osl bV),(.ptr .bK Aa),(.osl (.osl mN)),(.osl (.osl oz)),ey,(.ptr .bK mM),(.optr aF),aF,(.osl (.mp bP)),(.mp bP),oA,(.bb .bK mM),(.optr Iw),Iw,(.optr mN),(.ptr .bK (.st (.pr aF (.pr lz (.pr (.bb .bK (.dN .bK bP)) .nil))))),(.optr oA),(.bb .bK (.bb .bK .bool)),(.st (.pr aF (.pr aF (.pr iv (.pr aF .nil))))),(.ptr .bK j8),(.osl mN),(.bb .bK (.st (.pr aF (.pr aF (.pr hE (.pr aF .nil))))))]
def aL {f:fW g->Option (hx g (kr h))} (i:w2 E) (c:Nat) (e:E.P.funcs[a]?=some l) (d:(l.body.isSome&&Nat.ble g.length l.ntmps)=true:=by kernel_rfl) (k:(l.name=="runtime.NumGoroutine")=false:=by kernel_rfl) (j:∀b,yz ⟨E.tt,i.1,(Hb HO c).2.1,l.ntmps,iE 0 g++mA (ie 0 g),[],(Hb HO c).2.2,ie 0 g,[],[],E.glob⟩ ((Hb HO c).1.ex (l.body.getD .skip)) (l.body.getD .skip) g l.results.toList h b=f b:=by intro b;kernel_rfl):aE E ⟨a,g,h,f⟩:=
 aE.q i _ e (QW e k (by have:=d;simp only[bp] at this;exact this.1)) _ _ d j
def tZ:aE E ⟨155,[.v ef],[j7],k2⟩:=aL aK 0x1152c455ab261c7f4b3435b0c101a28f318a51a6c0d func155
def rW:aE E ⟨153,[.v .bool,.v ef],[bM],kH⟩:=aL (ak tZ aK) 0x1835c319200d func153
def y0:aE E ⟨162,[.v aF],[bM],pW⟩:=aL (ak rW aK) 0xf8124f00f3db5733a6c0d func162
def yY:aE E ⟨149,[.v bM],[bM],oP⟩:=aL (ak rW aK) 0xc558600d func149
def y3:aE E ⟨87,[],[bP],tc⟩:=aL aK 0xc08 func87
def tH (a:Int):fM:=⟨E.tt,[],[],14,[0]++(iE 0 [.v ey]++mA (ie 0 [.v ey])),[(0,.val ey a)]++[],[],ie 0 [.v ey],[],[],E.glob⟩
noncomputable def rE:Code:=Tryz.f222.body.getD .skip
def tI:Array Oper:=(uj 3 rE).getD #[]
def F3:lr:=.two .none (.leaf) (.two .none (.two .none (.leaf) (.leaf)) (.leaf))
def CA:lr:=.keep [0] (.two .none (.leaf) (.two .none F3 (.two .none (.leaf) (.leaf))))
def vS (a:Int):aQ:=⟨[(4,.val .bool (a==0)),(3,.val ey a),(2,.val aF 0),(0,.val ey a)],[]⟩
def F2 (a:Int):Exit->aQ->Option (hx [.v ey] (kr [.int .i64])):=Kh E.tt [.v ey] [.tmp 2] [.int .i64] (a,())
def TL:rE=.seq (Dw rE) (.seq (Dw (N8 rE)) (.seq (.region 3 tI false) .ret)):=by kernel_rfl
def TO:tI.size=10:=by kernel_rfl
def TM (a:Int) (b:Exit->aQ->Option d) (c:aQ->Option d):gW (tH a) .leaf (Dw rE) ⟨[(0,.val ey a)],[]⟩ d (zo (λe=>gW (tH a) F3 (Dw (N8 rE)) e d (zo c b)) b)=bif a==0 then b .ret ⟨(2,.val aF 32)::(vS a).g,[]⟩ else c (vS a):=by kernel_rfl
def TI (a:Int) (b:aQ->Option d):jP (tH a) tI [0,1,2,3,4] (vS a) b=b ⟨(9,.val ey (IntKind.u32.wrap (dr IntKind.u32 a (IntKind.u32.wrap (0-a))*125613361)))::(8,.val ey (dr IntKind.u32 a (IntKind.u32.wrap (0-a))))::(7,.val ey (IntKind.u32.wrap (0-a)))::(6,.val ey a)::(5,.val ey a)::(vS a).g,[]⟩:=by kernel_rfl
def TJ (a c d b:Int):jP (tH a) tI [5,6,7,8,9] ⟨(9,.val ey b)::(8,.val ey c)::(7,.val ey d)::(6,.val ey a)::(5,.val ey a)::(vS a).g,[]⟩ (F2 a .ret)=(dk IntKind.u32 b 27).bind λe=>(aC oI e).bind λf=>some (IntKind.i64.wrap f,()):=by kernel_rfl
def TP (a:Int):F2 a .ret ⟨(2,.val aF 32)::(vS a).g,[]⟩=some ((32:Int),()):=by kernel_rfl
def TN (a:Int) (c:fW [.v ey]) (f g:Code) (b:Exit->aQ->Option d) (h:c=(a,())):gW ⟨E.tt,[],[],14,iE 0 [.v ey]++mA (ie 0 [.v ey]),[],[],ie 0 [.v ey],[],[],E.glob⟩ CA (.seq f (.seq g (.seq (.region 3 tI false) .ret))) ⟨l9 0 [.v ey] c,ma 0 [.v ey] c⟩ d b=gW (tH a) .leaf f ⟨[(0,.val ey a)],[]⟩ d (zo (λe=>gW (tH a) F3 g e d (zo (λe=>jP (tH a) tI (List.range tI.size) e (b .ret)) b)) b):=by subst h;rfl
def TK (b:fW [.v ey]):yz ⟨E.tt,[],[],14,iE 0 [.v ey]++mA (ie 0 [.v ey]),[],[],ie 0 [.v ey],[],[],E.glob⟩ CA rE [.v ey] [.tmp 2] [.int .i64] b=vw b:=by obtain⟨a,⟨⟩⟩:=b;show gW _ CA rE _ _ (F2 a)=_;rw[TL,TN a _ _ _ _ rfl,TM,TO,show List.range 10=[0,1,2,3,4]++[5,6,7,8,9] from rfl,FP,TI,TJ,TP];exact Eq.refl (bif a==(0:Int) then some ((32:Int),()) else(dk IntKind.u32 (IntKind.u32.wrap (dr IntKind.u32 a (IntKind.u32.wrap (0-a))*125613361)) 27).bind λc=>(aC oI c).bind λd=>some (IntKind.i64.wrap d,()))
def Pr:ik:=⟨222,[.v ey],[aF],vw⟩
def My:aE E Pr:=
 aE.of (fn:=Tryz.f222) (rs:=[.tmp 2]) [] [] [] CA func222 (by kernel_rfl) (by kernel_rfl) (by kernel_rfl) call222 Oz (by intro a;exact TK a)
def L9:aE E ⟨150,[.v bM],[aF],pX⟩:=aL (ak My (ak tZ aK)) 0x10024021b60061aa16f0a6c0d func150
def y5:aE E ⟨96,[.v bM],[bM],pU⟩:=aL (ak rW aK) 0xc558600d func96
def Mc:aE E ⟨159,[.v ef,.v aF],[j7],vC⟩:=aL aK 0x2fd00a912de711870ac773ef9214db060d func159
def GJ:aE E ⟨160,[.v ef,.v aF],[j7,.bool],vD⟩:=aL aK 0x614f4c61767eb710fe08fd87e0323167ca237bf1a98a5c17a7f224e8541bc559a5312616298cec1866b352774658e282429b060d func160
def MZ:aE E ⟨91,[.v bM],[bM],xW⟩:=aL (ak rW aK) 0xc558600d func91
def Vy:aE E ⟨156,[.v ef,.v ef],[j7],By⟩:=aL aK 0x23988023a9faec3b45f1a9d20a16fd9c4dab20aca912de711870ac773ef9214db060d func156
def Mb:aE E ⟨157,[.v ef,.v ef],[aF],xX⟩:=aL aK 0x620a429b060d func157
def Vz:aE E ⟨158,[.v ef,.v ef],[j7],xY⟩:=aL aK 0x17bb0017c6bb882a237ece26d59056547711870ac773ef9214db060d func158
def y4:aE E ⟨94,[.v bM,.v bM],[bM],oO⟩:=aL (ak Vz (ak Mb (ak Vy (ak tZ (ak rW aK))))) 0x87eec45f48a50c4d35ea66c30c9e16a837605d467d5b93c028393a4a49226da742b0e4b5741c7d1a4425335b38ac9ddf6ec6d73aa14fbcfefe8f838d623e950613abe741d88d1c5709c0f41a3bd5b492627075fd81041753060d func94
def GK:aE E ⟨161,[.v bM,.v bM],[bM],vB⟩:=aL (ak y4 (ak MZ aK)) 0x47abc6ad8004bcf2b753060d func161
def wj:aE E ⟨95,[.v bM,.v aF],[bM],k1⟩:=aL (ak y0 (ak GK (ak GJ (ak Mc (ak rW (ak yY aK)))))) 0xcaf53489f2057710168d8556ac6329486eca222267d7d2d65d21ca8efbf21700b99aa9feb8968fe29e0c2b7cc4da53736a70e583dc212bdd729b060d func95
def Ma:aE E ⟨151,[.v bM,.v aF],[bM],vE⟩:=aL (ak wj aK) 0xe2205c936d94ccb18cf6de798ccc8a34c0d func151
def GN:aE E ⟨223,[.v ey],[aF],vv⟩:=aL aK 0x2b0e785dc03968a07d3 func223
def yZ:aE E ⟨152,[.v bM],[aF],pV⟩:=aL (ak GN (ak tZ aK)) 0x1875c758600d func152
def ua:aE E ⟨88,[.v bM,.v aF],[bP],nI⟩:=aL (ak y5 (ak y3 (ak yZ (ak Ma (ak L9 (ak yY aK)))))) 0x724ba83b4017485488500e722ae3e16367b635a8a6db6db060d func88
def L3:aE E ⟨119,[.v aF],[bP],x0⟩:=aL (ak ua (ak y0 aK)) 0x30a00d func119
def rX:aE E ⟨90,[.v bP],[bP],mf⟩:=aL (ak ua (ak y3 aK)) 0x18578600d func90
def o3:aE E ⟨93,[.v bM],[aF],ke⟩:=aL (ak yY aK) 0xd func93
def Mv:aE E ⟨214,[.v .bool,.v bV],[bV],pY⟩:=aL aK 0x60d func214
def V3:aE E ⟨211,[.v .bool,.v aF],[bV],x4⟩:=aL (ak Mv aK) 0x9c2dc93060d func211
def Wz:aE E ⟨261,[.v bM,.v aF],[.bool],xU⟩:=aL (ak GJ (ak tZ aK)) 0x532006591f2d72d628060d func261
def WA:aE E ⟨262,[.v .bool,.v aF,.v .bool,.v aF],[.bool],BH⟩:=aL aK 0xe2860d func262
def V4:aE E ⟨212,[.v .bool,.v bM,.v aF,.v .bool,.v aF],[bM],BC⟩:=aL (ak y4 (ak o3 (ak WA (ak Wz (ak y0 (ak Ma (ak L9 aK))))))) 0x3807c8b7a9c9b3668961efe0046c83a954908c31a270db6cf3584525828b7af36623b3c816a80161a18bfca935c86b03041ff1f9047b5c80affe17e6a536c48e2860d func212
def V5:aE E ⟨213,[.v bM],[aF,.bool],Bw⟩:=aL (ak yY aK) 0x5ae249aa233c940edbc72429b6c0d func213
def GF:aE E ⟨141,[.v .bool,.v bM,.v aF,.v .bool,.v aF],[bV],vF⟩:=aL (ak wj (ak Mv (ak V5 (ak V4 (ak V3 (ak yZ aK)))))) 0x22b3add0290828516648d1039f3c84119dcc4db6c48e2860d func141
def MY:aE E ⟨81,[.v bP,.v aF],[bV],x3⟩:=aL (ak y5 (ak o3 (ak rX (ak GF aK)))) 0x19da07b2576fe1e0f0de891bd7f61ff15d7d51dcb46a6db060d func81
def MN:aE E ⟨52,[.v aF,.v aF],[bV],td⟩:=aL (ak MY (ak L3 aK)) 0x60d func52
def VO:aE E ⟨192,[.v aF,.v aF,.v aF],[.bool],Bh⟩:=aL aK 0x2860d func192
def MI:aE E ⟨269,[.v aF],[.bool],q3⟩:=aL aK 0xd func269
def GO:aE E ⟨234,[.v aF,.v aF],[.bool],sY⟩:=aL (ak MI aK) 0x60d func234
def Wh:aE E ⟨242,[.v ea],[.bool],Bn⟩:=aL (ak GO aK) 0x30a5214c0d func242
def VP:aE E ⟨193,[.v hT],[.bool],Be⟩:=aL (ak Wh aK) 0x89168401d66b93f29e80930b3bf78f127d54e40fbd6eac4b248cdff8c5060d1e00b4c0d func193
def GG:aE E ⟨142,[.v bV],[aF,bV],vk⟩:=aL aK 0xd func142
def GS:aE E ⟨84,[.v bV],[.bool],q5⟩:=aL (ak GG aK) 0xd func84
def VR:aE E ⟨195,[.v bV],[.bool],EU⟩:=aL (ak GS aK) 0xd func195
def Wi:aE E ⟨243,[.v kD,.c 195 []],[aF],EW⟩:=aL (ak VR aK) 0x3195177853060d func243
def VQ:aE E ⟨194,[.v kD,.c 195 []],[.bool],Bj⟩:=aL (ak Wi aK) 0x60d func194
def CV:aE E ⟨121,[.v hT],[aF],q8⟩:=aL (ak VP (ak VO (ak VQ aK))) 0x483600920a7b34c0d func121
def Vg:aE E ⟨122,[.v ea,.v aF],[iv,.bool],B1⟩:=aL aK 0x23c77e56d00647fd1d61649549b6abff84c188d32f8a2554b1020cf3dcc1d77269ed04fe9ab949db0f0a6db060d func122
def Mp:aE E ⟨196,[.v hT],[pH],vx⟩:=aL aK 0xec1740ca8b5e9e93c588aef5307a40487df8decb96c7d388140c83212c38c63dac169e0af80c5dda3f3494ebde21bf45d879e23ce5ba59fb84722ac94c8b4af0a6c0d func196
def WE:aE E ⟨270,[.v (.bb .dt mM)],[pH],EV⟩:=aL aK 0x60a00d func270
def MH:aE E ⟨264,[.v aF,.v aF],[aF],vg⟩:=aL (ak MI aK) 0x60d func264
def WH:aE E ⟨273,[.v ea],[aF],AC⟩:=aL aK 0x632a2d9d6f0a6c0d func273
def WG:aE E ⟨272,[.v mM,.v mM],[aF],Bg⟩:=aL (ak WH (ak MH aK)) 0x28e9fae0dd280def2b0df6a0133753060d func272
def WX:aE E ⟨297,[.m pH,.v aF,.v aF,.c 272 []],[],xN⟩:=aL (ak WG aK) 0x1fdca31dde7cb0d8bf34bc3c1d304081ba01abde156dcc56a12968308e8d4d148233fc240beae1c265119b1fcee0193512ec062361d058528c369ed21e640c0613012180c2c38a1d func297
def WQ:aE E ⟨287,[.m pH,.v aF,.c 272 []],[],E2⟩:=aL (ak WX aK) 0x7829ba3655708d8741613cb0db19b0a09848e40d93620914769b0a1d func287
def WF:aE E ⟨271,[.m pH,.c 272 []],[],E1⟩:=aL (ak WQ aK) 0x1d func271
def Wj:aE E ⟨244,[.v (.bb .dt mM)],[pH],Bf⟩:=aL (ak WE (ak WF aK)) 0x0 func244
def VS:aE E ⟨197,[.v aF,.v aF,.v (.bb .dt mM)],[u0],Bd⟩:=aL (ak Wj aK) 0x5a3f85b98bdf7eff56c4900496cc17a5459ca4c1389c3ca78ed9fdb796a7eddda72f06c44335785378b97734bce0410bbca212b7d64b107fd0f6d35eac33b7abac4c388988e1a1b885b6c43157869dc2f80b305468abaf6d2792356f8b81eaaaae1f1072831fb6bd57bf8332d71adbc1758d02cb63ee11911d7f2ac78a3301c727bd0ae51ed9585e0a97f9a8a37f63e3e95f1724ed8e712dd01241b00ae472df5b6b3faaceae5276f0a6c2860d func197
def Vh:aE E ⟨123,[.v hT],[uZ,aF],Bc⟩:=aL (ak VS (ak Mp (ak CV aK))) 0x3beb37f97f342f4fa2917b291440a89e8f546b1d5349e5d2da716dc66472bc48d07e89adecd2632bc29b6c0d func123
def Mq:aE E ⟨198,[.v aF],[uY],xC⟩:=aL aK 0x79677a82d7ee11bcab853234f0a6c0d func198
def VT:aE E ⟨199,[.v hT],[pH],Bb⟩:=aL (ak Mp (ak CV aK)) 0x30580600d func199
def Ms:aE E ⟨200,[.m uY,.v aF,.v aF],[],xF⟩:=aL aK 0x1b90811b875b96fba90abaafbe04f9b237bf78113530a1d func200
def Wk:aE E ⟨245,[.v (.bb .dt (.bb .dt .bool)),.v aF],[iv],AX⟩:=aL aK 0x948004acb192e60c7711810d05f24c1bc29b060d func245
def Mt:aE E ⟨201,[.v (.bb .dt (.bb .dt .bool))],[z8],xE⟩:=aL (ak Wk aK) 0x3384dfc8aa712ada53cc49fdca8325d2f180e1ac57240657d8db9c29f047e2b4bfe5bb5632ad70cc90e5dc7c452cd240f0a6c0d func201
def Vi:aE E ⟨124,[.v hT],[lz,aF],xB⟩:=aL (ak Mt (ak Ms (ak VT (ak Mq (ak CV aK))))) 0x39f22550ff781f8719e6306c16e33de5b719964cffa114a1e02ab737b34a9bc29b6c0d func124
def V8:aE E ⟨230,[.v ea,.v aF],[.bool],AY⟩:=aL aK 0x13f44846cbb9863e60a39d3c29b060d func230
def Wc:aE E ⟨235,[.v aF],[.bool],Bq⟩:=aL aK 0xd func235
def GM:aE E ⟨185,[.v ea,.v aF],[aF,.bool],s7⟩:=aL (ak Wc (ak GO aK)) 0x1098cc9b28a3b4db060d func185
def MB:aE E ⟨231,[.v ji,.v aF,.v aF],[.bool],vo⟩:=aL (ak GM aK) 0xc8e02860d func231
def GL:aE E ⟨178,[.v ji],[aF],vl⟩:=aL (ak MB (ak V8 aK)) 0x6afcc24fd40bed2a076cf69658e6c3a9308c83eeb40b7f36760e07f7730cdd4d51aa578536c0d func178
def Wn:aE E ⟨248,[.v ji,.v aF],[.bool],A1⟩:=aL aK 0x3228060d func248
def W2:aE E ⟨311,[.v bV],[aF],JH⟩:=aL aK 0x2089c6502b625dc039d87d3 func311
def W0:aE E ⟨301,[.v bV],[aF],ES⟩:=aL (ak W2 aK) 0xd func301
def W1:aE E ⟨303,[.m iv,.v aF,.v aF],[],Bp⟩:=aL (ak GO aK) 0x38a4b03519c13a64e224dcdca5ab1d58671f6a6e5efc15ef57660e8f36506b24e15fd6d5d47412c43611215352028144b5ef00d873e014130d9eb4879003018400466030b0a1d func303
def WZ:aE E ⟨300,[.m iv,.v aF,.v aF,.v aF],[],Br⟩:=aL (ak W1 aK) 0xa037a2f31745800909a8451b130b0185b func300
def WR:aE E ⟨289,[.m iv],[],xM⟩:=aL (ak W0 (ak WZ aK)) 0x0 func289
def Ps:ik:=⟨249,[.v ea],[.bool],A0⟩
def Wo:aE E Ps:=Ir.ZW rfl (sort:=λd=>(xM (d,())).map λa=>a.1) (λe f b=>by obtain⟨a,c,rfl⟩:=er.1 b;exact WR.2 (e,()) a c)
def Wm:aE E ⟨247,[.v aF,.v Ab],[.bool],EQ⟩:=aL (ak Wn aK) 0x60d func247
def WI:aE E ⟨274,[.v ea,.c 247 [Ab]],[aF],EZ⟩:=aL (ak Wm aK) 0x3195177853060d func274
def Wl:aE E ⟨246,[.v ea,.c 247 [Ab]],[.bool],Bm⟩:=aL (ak WI aK) 0x60d func246
def VV:aE E ⟨202,[.v ji,.v ea],[aF],AW⟩:=aL (ak Wo (ak GL (ak Wl aK))) 0x3228060d func202
def VW:aE E ⟨203,[.v ji,.v ea],[lz],AZ⟩:=aL (ak MB (ak Mt (ak Ms (ak Mq aK)))) 0x30e44f7c57872ef24b7f0269f787b3d0ab0d917dfd2d3bf03770a54dcdfd4aab44e10616d60f396e8dc67bd46e45237a114a37717b64961143c29b060d func203
def Vj:aE E ⟨125,[.v ji,.v ea],[lz,aF],xD⟩:=aL (ak VW (ak VV aK)) 0x5c27228060d func125
def kq:aE E ⟨219,[.v ef],[ef],g1⟩:=aL aK 0x1a28f318a51a6c0d func219
def qo:aE E ⟨220,[.v .bool,.v ef],[bM],kc⟩:=aL (ak kq aK) 0x19200d func220
def GH:aE E ⟨145,[.v aF],[bM],vq⟩:=aL (ak qo aK) 0xdf524f00f3db5733a6c0d func145
def Vv:aE E ⟨146,[.v bV],[.bool],AT⟩:=aL aK 0xd func146
def CZ:aE E ⟨221,[.v ef],[j7],s8⟩:=aL aK 0x8a00d func221
def GI:aE E ⟨147,[.v bM],[bM],q7⟩:=aL (ak CZ (ak qo aK)) 0x13efd1aa73c519fa4e0f047e9e9ffe2c0dd4c0d func147
def CX:aE E ⟨167,[],[bP],vj⟩:=aL aK 0xc08 func167
def V6:aE E ⟨215,[.v bM],[bM],A4⟩:=aL (ak CZ (ak qo aK)) 0x2e8ead1bdf62eff0bf10f98af03cb94add4c0d func215
def tY:aE E ⟨144,[.v bM],[aF],nH⟩:=aL (ak kq aK) 0x58600d func144
def Mw:aE E ⟨216,[.v bM],[aF],xI⟩:=aL (ak My aK) 0x18db00319516d1e14c0d func216
def MG:aE E ⟨263,[.v ef],[aF],vt⟩:=aL (ak GN aK) 0xd func263
def y1:aE E ⟨217,[.v bM],[aF],pS⟩:=aL (ak MG (ak kq aK)) 0x58600d func217
def GP:aE E ⟨266,[.v ef,.v aF],[ef],s5⟩:=aL (ak kq aK) 0x17d61a98816400461dc91aca8599e2f0a6db060d func266
def WO:aE E ⟨284,[.v ey],[.bool],ER⟩:=aL aK 0xd func284
def WW:aE E ⟨296,[.v ef,.c 284 []],[aF],E0⟩:=aL (ak WO aK) 0x3195177853060d func296
def WN:aE E ⟨283,[.v ef,.c 284 []],[.bool],xL⟩:=aL (ak WW aK) 0x60d func283
def GQ:aE E ⟨267,[.v ef,.v aF],[ef,.bool],vr⟩:=aL (ak kq (ak WN aK)) 0x60c80961156027764718e7622aa93a37fab0b3189b34975aa7f65628436c8eb47c8319eb684db060d func267
def C0:aE E ⟨225,[.v ef,.v ef],[ef],s4⟩:=aL (ak kq aK) 0xdb4c17e13ab00475450f87f154f8d4e90b822cbf67136a692a64acb79d79b0e0d1f444529287d3 func225
def MA:aE E ⟨228,[.v bM,.v aF],[bM,aF],pT⟩:=aL (ak GQ (ak GP (ak C0 (ak qo (ak kq aK))))) 0x2c0d40b5cc6a918322e878b0eb6ae3f9e74aecb10ad4f50c1e4140483ac0b923078ab8f6cc6453060d func228
def Mx:aE E ⟨218,[.v bM,.v aF],[bM],xv⟩:=aL (ak MA aK) 0xe2205c936d94ccb18cf6de798ccc8a34c0d func218
def tX:aE E ⟨143,[.v bP],[bP,.bool],mT⟩:=aL (ak Mx (ak y1 (ak Mw (ak V6 (ak CX (ak tY aK)))))) 0xe88e9c99fe06e34bc272efdf39dec77aaf10f35ee489710341c5335c7b6c3cc66684b4db6c0d func143
def CW:aE E ⟨148,[.v bM,.v aF],[bP],sZ⟩:=aL (ak tX aK) 0x316625628060d func148
def C7:aE E ⟨86,[.v bV],[bP],pR⟩:=aL (ak CW (ak GI (ak Vv (ak GH (ak GG aK))))) 0x3925ad02e9096dc6661720c3db6f513426c0d func86
def MP:aE E ⟨55,[.v hT,.v ea],[(.ptr .bK (.st (.pr aF (.pr lz (.pr (.bb .bK (.dN .bK bP)) .nil))))),aF],rj⟩:=aL (ak C7 (ak Vj (ak Vi (ak Vh (ak Vg (ak CV aK)))))) 0x5018ebc57ea0902a45a7cc45e36a3ac811f9068bec82dff05718c2185f10c5f50d55348bd1b852b5946e8f1b0af97b85a37415b76eb4e235de891685622e87727a516d9159625c79f0d93ab6172956de91f65cb77e91f2f00eea715b5c3bcd3fc925964538d473c8cb923e4cb4e51618c985f8c14fae491d978b4fb45d4b0aba88dd274cdd4b44d0b55f578d602ddfa21edc28a626132d9ede1c31fd9acfec65d79dbfe48f0de891be3091fd7d51dcb46a6db6db060d func55
def Wp:aE E ⟨250,[.v aF],[Ec],AS⟩:=aL aK 0x68d7626d24822e31fd43e4326bacbf4e8bf597f58df681426d59dbd0e0d48b8c7c64869ac3a658c901c6f3f61b0b5cd8c1d14d6b674875b70b28b0a01cf77dd99b15878fc33420c422cf77308e3742e96481d4c0d func250
def Wq:aE E ⟨251,[.m Ec,.v aF,.v aF],[],AR⟩:=aL aK 0x10aa361dd57420b1c2412870768180c209e020b01842d func251
def VX:aE E ⟨204,[.v ji],[iv,aF],AQ⟩:=aL (ak Wq (ak Wp (ak GL aK))) 0x1d466601902817f76158a465eac1030d40260f396e658ec771187691065f282f3c29b6c0d func204
def VY:aE E ⟨205,[.v ji,.v ea,.v aF],[iv],B0⟩:=aL aK 0x225043b669c4499da18b9f643cdc74344c191a33ea0dee0326236e33dd1436c91920c1020ac08078a563de23b93b2dd37200239ee30d652a778536c2860d func205
def Vk:aE E ⟨126,[.v ji],[(.osl iv),aF],BZ⟩:=aL (ak VY (ak VX aK)) 0x101196d36b51336cff5910c333012d59261ba019892397cd1e265807109cb7733ce5b9a17baee462ca503194a1db2bc29b6c0d func126
def MQ:aE E ⟨56,[.v w3],[Ae],xk⟩:=aL (ak Vk aK) 0x1160fb55c1e64d7b0b588c29a96939950f04feaf6836831a03e100d15c59b298d3c951c2c226d4e4639c6ce0d8918375971392b3ded1dbe3bbe6f83d55db0e37a775572af01c1f8c6eed0dbb3ab93eb215386baa85b886d17f0e4b8cffe672546f7f580e701e7f503b73dc884fed3c1b49bf652cf4b6d60f8585b7691ff9200c69dd4bb97fb77d598790361505d50e25506b82d7e67e6159e8146b3d057588e23ad515c6bac781da231d283e06ea6c0d func56
def L2:aE E ⟨107,[.v w3,.v aF,.v aF],[bP],yi⟩:=aL aK 0x31a02860d func107
def Mf:aE E ⟨166,[.v bP,.v bP],[bP,bP,.bool],xw⟩:=aL (ak tX aK) 0x2c8262799e875a6bde98b8a9221192db268d4db060d func166
def V7:aE E ⟨224,[.v ef,.v ef],[ef],A9⟩:=aL (ak kq aK) 0x1eb3a11e0206afe4be3ec9734be5fb29993a2a0976f654c3424c58965faca692a303fe3afed168f9093060d func224
def Mg:aE E ⟨168,[.v bM,.v bM],[bM],xH⟩:=aL (ak V7 (ak qo (ak kq aK))) 0x2b0d18995bb3d89730d0333753060d func168
def L0:aE E ⟨103,[.v bP,.v bP],[bP],xo⟩:=aL (ak Mg (ak CX (ak Mf (ak CW aK)))) 0x2558c8dcf458a3e3451a4b25b4863e7fafcb8d249ad23fafaa3b968d4db060d func103
def Mj:aE E ⟨173,[.v bP],[bP],xp⟩:=aL (ak GI (ak tX aK)) 0x123c030f612331ba6c0d func173
def wh:aE E ⟨170,[.v bM,.v aF],[bM],me⟩:=aL (ak MA aK) 0x648060d func170
def WM:aE E ⟨282,[.v ey],[.bool],AD⟩:=aL aK 0xd func282
def WB:aE E ⟨265,[.v ey,.v ey],[aF],AB⟩:=aL (ak WM aK) 0x60d func265
def C1:aE E ⟨226,[.v ef,.v ef],[aF],s3⟩:=aL (ak WB (ak MH aK)) 0x620a429b060d func226
def Mz:aE E ⟨227,[.v ef,.v ef],[ef],vu⟩:=aL (ak kq aK) 0x547b594e4017c6c5a80b1171bf67136b342e6547711870dc773ef92c25e14db060d func227
def CY:aE E ⟨169,[.v bM,.v bM],[bM],q6⟩:=aL (ak Mz (ak C1 (ak C0 (ak qo (ak kq aK))))) 0x2ba375b6e655421c0bf15ec412370d6777027b00ff919578eb969b060d func169
def L1:aE E ⟨104,[.v (.bb .dt bP)],[bP],xu⟩:=aL (ak wh (ak CY (ak CX (ak CW (ak tX aK))))) 0xae16fe1637b94b5fb0041f497ecf81bd62c5e6f49050a76ef246bf1388da6aa08f337cf3dc03878579c75592d3623c0711d75a68025b3be199366ab0facb4a59a4a4678536c0d func104
def Vl:aE E ⟨127,[.v (.ptr .dt (.st (.pr (.bb .dt ea) (.pr (.bb .dt kD) (.pr (.bb .dt (.dN .dt bP)) (.pr (.bb .dt ea) .nil)))))),.v w3,.v aF,.v aF],[bP],xm⟩:=aL (ak Mj (ak L2 (ak L1 (ak L0 aK)))) 0x2986522e5e610db675a585258b404fc7b46efce8f0eb8641dfb0812c0de7089ae6f14d9cfd59896d0b309cc752624cedcf358bab7619a49a48f3e59a2476f12a16bc29b0e2860d func127
def C6:aE E ⟨85,[.v bP],[aF],pQ⟩:=aL (ak tY (ak tX aK)) 0xd func85
def CU:aE E ⟨106,[.v bP],[bP],q4⟩:=aL (ak tX aK) 0x30a00d func106
def WT:aE E ⟨292,[.v ef,.v ey],[ef,ey],A8⟩:=aL (ak kq aK) 0x9630b9c40ad9326b91873b2776f29214db060d func292
def ML:aE E ⟨293,[.v ey],[aF],s6⟩:=aL (ak GN aK) 0xd func293
def Pt:ik:=⟨294,[.w ey,.v ef],[ey],xJ⟩
def WU:aE E Pt:=
 .q aK (.k [1] (.n (.n (.t .none (.d [.b [0],.a,.b [0],.b [0],.a,.a,.b [0],.a,.a,.b [0],.b [0],.a,.a,.a]) (.n (.t .none (.o (.k [5] (.p ⟨[(0,.w 0),(7,.v bV),(8,.v bV)],[(0,j7)]⟩ (.x 0 ⟨[(0,.w 0),(7,.v bV)],[(0,j7)]⟩) (.t (.uz [7,8] ⟨[(0,.w 0)],[(0,j7)]⟩) (.t .none (.d [.a,.a,.a,.a,.a,.a,.a,.a,.a,.a,.a,.a,.a,.b [0],.a,.a,.b [0],.b [0],.a,.a,.a,.a]) .l) .l)))) (.n (.t .none (.n (.o (.k [5,7,84,85] (.p ⟨[(0,.w 0),(9,.v bV),(10,.v bV),HT 86],[(0,j7)]⟩ (.x 2 ⟨[(0,.w 0),(9,.v bV),(10,.v bV)],[(0,j7)]⟩) .l)))) (.n (.n (.n (.n (.t .none (.n (.o (.k [5,7,140,141] (.p ⟨[(0,.w 0),(9,.v bV),HT 142],[(0,j7)]⟩ (.x 4 ⟨[(0,.w 0),(9,.v bV)],[(0,j7)]⟩) .l)))) .l))))))))))))) func294 call294
def MJ:aE E ⟨280,[.v ef,.v ef],[ef,ef],xK⟩:=aL (ak WU (ak ML (ak WT (ak GQ (ak GP (ak C1 (ak CZ (ak kq aK)))))))) 0x18aeeeee0614f762e5dd2c918b4d25c40bf549368a461fe36e53e6c922f3a78536db6db060d func280
def WK:aE E ⟨279,[.v ef],[ef],A7⟩:=aL (ak MJ (ak GQ (ak GP (ak MG (ak C1 (ak C0 aK)))))) 0x8a302e3b0b6c0d func279
def Wv:aE E ⟨257,[.v bM],[bM,aF],A5⟩:=aL (ak WK (ak qo (ak kq (ak tY aK)))) 0xc558600d func257
def Mk:aE E ⟨175,[.v bM,.v bM],[aF],xG⟩:=aL (ak C1 (ak kq (ak tY aK))) 0xb1d628060d func175
def VZ:aE E ⟨207,[.v bP,.v aF],[oA],AO⟩:=aL (ak Wv (ak y1 (ak Mk (ak wh (ak Mg aK))))) 0x2135fda374ea4603644e2c5d1b68c241671428ff74fd108ca368163209b060d func207
def Wr:aE E ⟨252,[.v oA],[aF],AM⟩:=aL (ak y1 aK) 0x19e0600d func252
def WS:aE E ⟨291,[.v bM,.v bM],[bM],A6⟩:=aL (ak CY aK) 0x325628060d func291
def WJ:aE E ⟨278,[.v oA,.v aF],[bM,aF,.bool],xq⟩:=aL (ak WS (ak Mx (ak y1 (ak Mk (ak wh (ak GH (ak tY aK))))))) 0x15822ed174d26dfd831e323133f662829d80b3eca42eebafa2c53c00f0fdbddf7b7bff50820b4cea6db060d func278
def Wt:aE E ⟨254,[.v oA,.v aF,.v aF],[bM],AN⟩:=aL (ak WJ (ak Mw (ak wh (ak CY (ak GI (ak GH (ak tY aK))))))) 0x3e334031969d38a98e7bb527a8a141cf3ec73866b2c881059210bc876c57f815cc2e41f6be7639f26ae4cb26c2860d func254
def Mi:aE E ⟨171,[.v bM],[bM],vp⟩:=aL (ak CZ (ak qo aK)) 0x14d0c558600d func171
def Ws:aE E ⟨253,[.v bM],[aF,.bool],A3⟩:=aL (ak kq aK) 0xa7c641ea3f1d2d07444cbdff54d8852951b13b8897972bc29b6c0d func253
def ME:aE E ⟨255,[.v bV,.v .bool],[bV],s2⟩:=aL aK 0x60d func255
def Wu:aE E ⟨256,[.v .bool,.v aF],[bV],AU⟩:=aL (ak ME aK) 0x9c2dc93060d func256
def Mu:aE E ⟨206,[.v oA,.v aF],[bV],xA⟩:=aL (ak Wu (ak ME (ak Wt (ak Ws (ak Wr (ak Mi aK)))))) 0x13687806f3e04826db060d func206
def L4:aE E ⟨128,[.v bP,.v aF],[bV],xz⟩:=aL (ak C6 (ak VZ (ak Mu (ak CU aK)))) 0x92e28966b99878d09b060d func128
def L5:aE E ⟨129,[.v bV],[aF],xx⟩:=aL (ak GG aK) 0x12bf69059a6c0d func129
def Ww:aE E ⟨258,[.v bM,.v bM],[bM,bM,aF],A2⟩:=aL (ak MJ (ak Mz (ak C0 (ak qo (ak kq aK))))) 0xf788e0b91f142043b401748e4882c0e722a5ad958f85ee0bd25cf7b632a826db060d func258
def V0:aE E ⟨208,[.v bP,.v bP,.v aF],[oA],AL⟩:=aL (ak Ww (ak y1 (ak Mi (ak wh (ak tY aK))))) 0x22c85df5d481842180f66dee4a1f0d6701da11a33e060d970ef81ccfc0ebba803338937a0666ea6c2860d func208
def L6:aE E ⟨130,[.v bP,.v bP,.v aF],[bV],xy⟩:=aL (ak C6 (ak V0 (ak Mu (ak CU aK)))) 0x13e836fa0a0cfaacc66bcf0792d67b8db2a141d202d2ede8d4c2860d func130
def W8:aE E ⟨57,[.m Ae,.v w3,.v aF],[aF],Az⟩:=aL (ak C7 (ak C6 (ak GS (ak L6 (ak L5 (ak L4 (ak Vl aK))))))) 0x10dba1f4f8120edd9dd30cabe8f167b36f9310f1a79b81e72859856af8bde2e4064de8cafd1ba07885c796edaa2c2aaeab745d75709c4daa3f07fbd45c06ea6b5baea9f5d231bf074d238349ac677c72d36fa6d387b62a21c9147023e35f9052f32241b042c78836d7adeb617cefd71c4ff3c3ad1fc6c6bf65dcb38fca0d4a81e02593194aaa9146b1f377ed4d0d4e9f095da41e46e07ff67db8e798b821b8d79027c1b2ac4ce8e1368113536db0a1d func57
def Vn:aE E ⟨131,[.v ea],[iv],Bi⟩:=aL aK 0xa00d func131
def MR:aE E ⟨58,[.v (.ptr .dt (.st (.pr (.bb .dt ea) (.pr (.bb .dt kD) (.pr (.bb .dt (.dN .dt bP)) (.pr (.bb .dt ea) .nil)))))),.v ea],[Ad],xl⟩:=aL (ak Vn aK) 0x2a7248e2604f0c572d41781da2b1a0a740520ee9c86d6dc0e2a353b6ca3e39d2fe3c1ce0655b25ac4c49c1edabeb72052defcaa3c7251f51e9622ec026a710f0301e2263807d473896eb1d0346e4523da2b37897b6497bc29b060d func58
def Vm:aE E ⟨13,[.v hT,.v ea],[uX,aF,aF],xj⟩:=aL (ak MR (ak W8 (ak MQ (ak MP aK)))) 0x1fbe16e4870ccc41ea4cfd424f281beac4f8e4997cc5df35cf888926775ba7ae0c492452747acb602a9db64a96ef0a6db060d func13
def Mr:aE E ⟨20,[.v ea,.v ea],[.bool],tb⟩:=aL aK 0x620a429b060d func20
def MO:aE E ⟨53,[.v kD,.v kD],[.bool],Bt⟩:=aL aK 0x620a429b060d func53
def U8:aE E ⟨11,[],[.bool],Bv⟩:=aL (ak MO (ak MN (ak Mr (ak Vm aK)))) 0x846c8d71aa48 func11
def wi:aE E ⟨21,[.v aF,.v aF],[aF],mU⟩:=aL aK 0x60d func21
def GR:aE E ⟨50,[.v kD,.v aF],[bV],ta⟩:=aL (ak wi aK) 0x6e1e9b060d func50
def C4:aE E ⟨67,[.v bV],[.bool],te⟩:=aL aK 0xd func67
def VA:aE E ⟨164,[.v bV],[bV],E3⟩:=aL (ak MN aK) 0xd func164
def Xm:aE E ⟨99,[.v bV,.v aF],[bV],vA⟩:=aL (ak C4 (ak wi (ak VA aK))) 0x60d func99
def MM:aE E ⟨35,[.v kD,.v aF,.v aF,.v aF],[u0],s9⟩:=aL (ak Xm (ak GR aK)) 0x26ad61a2fcac6d0c69be866cc52f25329f615a8be79998210665d9838131ef3304dd9cca493b561651c66f257d796a5e442809229a9e7525c0185c46280f5597b88b6ecd9611b603685a49a48d5e6b9be76f12429b0e2860d func35
def Vr:aE E ⟨135,[.v kD],[.bool],BL⟩:=aL (ak C4 aK) 0x30a5214c0d func135
def y2:aE E ⟨68,[.v hT],[aF],pZ⟩:=aL (ak Vr aK) 0x9a39549089a231007afee5752252d7622a0dbbe989d68087900b4c0d func68
def MD:aE E ⟨25,[.v hT,.v aF,.v aF],[bV],re⟩:=aL (ak y2 aK) 0xd97a01285e44d1e0174c2860d func25
def Xk:aE E ⟨89,[.v bV],[.bool],BI⟩:=aL aK 0xd func89
def C3:aE E ⟨24,[.v bV],[bP],rc⟩:=aL (ak Xk (ak ua (ak y3 (ak C4 aK)))) 0xb408ad23c030f40edbcce9b6c0d func24
def WY:aE E ⟨30,[.v bP],[bP],BB⟩:=aL (ak y5 (ak rX (ak ua aK))) 0x4de366eff100be544f8a38b13e96ed3a3536c0d func30
def MK:aE E ⟨29,[.v (.bb .dt bP)],[bP],x2⟩:=aL (ak wj (ak y4 (ak o3 (ak rX (ak ua (ak y3 aK)))))) 0xb7cf6e54984aea9210928e66e011d75fc8a7de57582f9a31366ed12770aca57b3c6bfa63105d72461b95c03fc6fdddffa3e1cdd6a1b289b12046d33a0738ba394a01c46ce9335ed77004b677c33263d561e81694b3490a6c0d func29
def Vf:aE E ⟨120,[.v hT,.v aF,.v aF],[.bool],x6⟩:=aL aK 0xd97a01285e44d1e0174c2860d func120
def W7:aE E ⟨54,[.v kD,.v aF,.v aF],[u0],vz⟩:=aL (ak MY (ak MM (ak WY (ak MK (ak MD (ak C3 (ak wi (ak Vf (ak L3 aK))))))))) 0x2c152ce85947ce4441db1e68240c8d19f5e0f4096b122cc59bf403a2d08a47d35de1ac1c9ed39d8428c880ea8385f17e1eb9a09162c22f2b490685eefb21424e59b36608ef5908c976139c785bfe1e7e0f395aab11a0adf7fa60afdf555f0696a77a9493cbe8ac2b87a970ad3a70db7dd45c81d04d1407c4b3cfe8f986501359c5f77ac0799bc6c90eef740c449333ecedafa526540666a44f515e8c62ac37611b602d836255c8d5ceb6d6770e1d5ca48536c2860d func54
def W6:aE E ⟨51,[.v kD,.v aF],[hE],xP⟩:=aL (ak GR (ak wi aK)) 0x234ec7fd7f431f4037f42bce11987e021f92218c37bd4e5bee93d36ad1574e1189dd0058e85a1536b71dbe925704be32809846be9bf06b27a6e88228e95f2d63e765464c94d222429b060d func51
def Ve:aE E ⟨12,[.v kD,.v aF,.v aF,.v .bool],[uZ,hE],xR⟩:=aL (ak W7 (ak W6 (ak MM (ak wi aK)))) 0x603d08fff807a11ffe00e22038a0d func12
def Vo:aE E ⟨132,[.v ea,.v aF],[.bool],BV⟩:=aL aK 0x8794808560c5e84759579d61a78532f9214db060d func132
def MS:aE E ⟨59,[.v hT,.v ea],[aF],yh⟩:=aL (ak y2 (ak Vo aK)) 0x2028060d func59
def MU:aE E ⟨69,[.v hT],[pH],x5⟩:=aL (ak y2 aK) 0xeb71cf9ee93207b2e7260cf4f48a8d7162a9b99f4bacd37e17178bb3f493cb5e0eaea4879c5f018bbb47e6929d7bc437e8bb0c11d96cb3f708e454d2990578536c0d func69
def Xf:aE E ⟨70,[.v aF,.v aF,.v (.bb .dt mM)],[u0],BM⟩:=aL aK 0x360da4eff9c923984c15a3242bffc387a93fbed9238a463aee002ef8c568611f2dd029645aa302e7a86885e1454530ca508962eeb5e6865cf5174cc939a6aa31c451b252c1548331c57fe5eee939203e4955461598cd6cd35c16c122cae81df1649acbb487a9e98b15c332d335c5ac26c2483625815c8c0ceb6d6770e1d5ca48536c2860d func70
def Md:aE E ⟨16,[.v hT],[uZ,aF],rf⟩:=aL (ak Xf (ak MU (ak y2 aK))) 0x1e2acdfe5fe3a908b5ab2f8bd948a20523d51254ce4165b4e2db8cc8e48d07ac5ecd2272bc29b6c0d func16
def MV:aE E ⟨71,[.v aF],[uY],x9⟩:=aL aK 0xbbb623d7e0b5fb846f2a694c90a6c0d func71
def MW:aE E ⟨72,[.v (.bb .dt (.bb .dt .bool))],[z8],x7⟩:=aL aK 0x2f627f198fbf6ec8c280c9e490da4fb3d6c324c10ac698608f78430dac026cdd7585281659a5cef47c81d1800774521ac312dd58cab5c332439771e694b3490a6c0d func72
def Mh:aE E ⟨17,[.v hT],[lz,aF],rh⟩:=aL (ak MW (ak MV (ak MU (ak y2 aK)))) 0xd9f3ec8e62268ee6bddc6b6aff5d86d4eb16595fcf7eb4861a59d716c6e33de5b71991bd08a50f58bd9a451e14db6c0d func17
def L7:aE E ⟨136,[.v ea],[.bool],xQ⟩:=aL aK 0x30a5214c0d func136
def GD:aE E ⟨137,[.v ea,.v aF],[.bool],q9⟩:=aL aK 0xc414853060d func137
def C5:aE E ⟨73,[.v ji],[aF],tg⟩:=aL (ak GD (ak L7 aK)) 0x2f8cc802cac4b24b608f396b0c3542a578536c0d func73
def Xg:aE E ⟨74,[.v ea,.v aF],[.bool],Bu⟩:=aL aK 0x8794808560c5e84759579d61a78532f9214db060d func74
def Vs:aE E ⟨138,[.v ea,.v aF],[.bool],BN⟩:=aL aK 0x4f6b0c414853060d func138
def Vt:aE E ⟨139,[.v ea],[.bool],BO⟩:=aL (ak GD aK) 0x30a5214c0d func139
def L8:aE E ⟨140,[.v ji],[uY],x8⟩:=aL aK 0x98a3e07a30c93320644c808944ca7b76ac4ba8b9a6bd8625b1b4652379b40b242a578536c0d func140
def Xh:aE E ⟨75,[.v ji,.v ea],[lz,aF],BP⟩:=aL (ak C5 (ak MW (ak MV (ak L8 (ak Vt (ak Vs aK)))))) 0x38d5bf759048db49d0c0ddc4e0eb58438263ce37216ceb0a252989437ace3f33ff8cb4f1a6ddc2a97737dd8fbd12093b2d8e327bd48945237b314a36e1c3648bbc29b6db060d func75
def Ml:aE E ⟨18,[.v ji,.v ea],[lz,aF],p0⟩:=aL (ak Xh (ak Xg (ak C5 aK))) 0x5c27228060d func18
def MT:aE E ⟨60,[.v hT,.v ea],[lz],yg⟩:=aL (ak Ml (ak Mh (ak Md aK))) 0xb898170f00e1605c26028060d func60
def Xi:aE E ⟨76,[.v ji],[Ef],BQ⟩:=aL (ak L8 aK) 0x2fdab03cfdaa731a2232cab0fd68412cdb299cf06a9b3733afa94e51321d3ffc580b32e81d4c0d func76
def MX:aE E ⟨77,[.v (.ptr .dt (.st (.pr (.bb .dt (.bb .dt .bool)) (.pr (.bb .dt .bool) .nil)))),.v aF],[iv],yb⟩:=aL aK 0x37b00038529fe082858959575560c7711810a65f2429b060d func77
def Xj:aE E ⟨78,[.m Ef,.v aF],[],ya⟩:=aL (ak MX aK) 0x10b27bff58bbfca877f4714f7e21476f77c95212bc7d95104371af2155fa1bdef9c3200ba7ea256ef8a8ed84a33a765ad41c241231ad034082439e14c1d func78
def Mo:aE E ⟨19,[.v ji],[(.osl hE),aF],vG⟩:=aL (ak Xj (ak MX (ak Xi (ak C5 aK)))) 0xfc110577cb6efbe05b0177dd77231f52735a42b1937c82bc29b6c0d func19
def W9:aE E ⟨61,[.v hT,.v ea,.v aF,.v aF],[bP],BT⟩:=aL (ak MD (ak C3 aK)) 0x6460480e2860d func61
def Vx:aE E ⟨154,[.v ef,.v ef],[j7],BA⟩:=aL aK 0x5ab3db07df9059af0aa155ed3d69cd6217c4d7541437f30f8b4a62d114a2c312d6547711870a65f2429b060d func154
def M0:aE E ⟨92,[.v bM,.v bM],[bM],xV⟩:=aL (ak tZ (ak Vx (ak rW aK))) 0xe288c107e39c112656ecf62607a8de5b2b231883fd56f8c90554506d1a3ed3dbbe84c73753060d func92
def WD:aE E ⟨27,[.v bP,.v bP],[bP],BD⟩:=aL (ak M0 (ak rX (ak ua (ak y3 aK)))) 0xb37795bb476fb40cb0a149fd406ed9753694f65056bb3569f4da3886e423d06df02b302d7e52b191579fab59a437650dbc569171ac7ba4ba5a353060d func27
def Xa:aE E ⟨62,[.v bV,.v bV],[bP],ye⟩:=aL (ak WD (ak C3 aK)) 0xc48060d func62
def Wy:aE E ⟨26,[.v bP],[bP],x1⟩:=aL (ak MZ (ak rX (ak ua aK))) 0x4de366eff100be544f8a38b13e96ed3a3536c0d func26
def WV:aE E ⟨295,[.m j7,.v ef,.v aF,.v bV],[.bool],xZ⟩:=aL aK 0x9580972350e505b5ed86f23894c490c035cf27390ea15fd25c7bedef6bb9af164192b2fd494a23ec848c3fc61d0785fc17f3048ebc29b6c38a1d func295
def WL:aE E ⟨281,[.v ef,.v ef],[j7,ef],Bz⟩:=aL (ak WV (ak ML (ak GJ (ak Mc (ak Mb (ak tZ aK)))))) 0x10030a661889c696929f11751f11a1074eeecb40ccb6185caaa69c65de8d02af5c8ad7c3ada8310798387b4fc6760442541cfdcc841408b7aa4b0005bc756ac07784bf3bfb2041ff764ab451237642eeb157a2f76916e989ab7f9572c12fd09144376ae61f132820e232fbfd66ce941ce999e183ebce750674382ea6db060d func281
def MF:aE E ⟨260,[.v bM,.v bM],[bM,bM],xT⟩:=aL (ak y5 (ak y4 (ak o3 (ak WL (ak y0 (ak GK (ak rW (ak yY aK)))))))) 0x30e09c6c90f1e70484c195c936edd899cf270af7a71ee86ac9b72798e75c9567854fcc6cbe5057531e509956c90c9e11e27c23040c7679c2fe9f56e5ac9a0fe103d84f58b69498d31837dbce7b61dbc889dc29f37ca4648bc569171ac7ba4ba5a353060d func260
def Me:aE E ⟨163,[.v bM,.v bM],[aF],xS⟩:=aL (ak o3 (ak GK aK)) 0xb1d628060d func163
def Wx:aE E ⟨259,[.v bM],[bM],Bx⟩:=aL (ak wj (ak y4 (ak o3 (ak MF (ak Me (ak y0 (ak yZ aK))))))) 0x5c661a6a923ae63d6d7f8451fcad994f9213e17d5a83426ea6c0d func259
def V1:aE E ⟨209,[.v bM,.v aF,.v aF],[bM,aF,.bool],BF⟩:=aL (ak wj (ak M0 (ak Wx (ak Me (ak yZ aK))))) 0x111627a910cab4c83a5784c74df35552c391d3f441f3b864cb26c2860d func209
def Vp:aE E ⟨133,[.v bP,.v aF],[bV],BK⟩:=aL (ak o3 (ak rX (ak V1 (ak GF aK)))) 0x4c201878d09b060d func133
def Xb:aE E ⟨63,[.v bP],[bV],yf⟩:=aL (ak Vp aK) 0x78600d func63
def Xc:aE E ⟨64,[.v bP],[aF],BG⟩:=aL (ak o3 (ak rX aK)) 0xd func64
def Xd:aE E ⟨65,[.v bV],[.bool],BR⟩:=aL aK 0xd func65
def V2:aE E ⟨210,[.v bM,.v bM,.v aF],[bM,aF,.bool],BE⟩:=aL (ak wj (ak o3 (ak MF (ak yZ aK)))) 0x61502de52571b8b6338b88ce4bab90dd5954f761c98bff470f1566ea6c2860d func210
def Vq:aE E ⟨134,[.v bP,.v bP,.v aF],[bV],BJ⟩:=aL (ak y5 (ak o3 (ak rX (ak V2 (ak GF aK))))) 0x1a966290899c3cf8668f1eb4e805017dafd52769e7161a4d02bcf0792d67b8db2a141d202d2ede8d4c2860d func134
def Xe:aE E ⟨66,[.v bP,.v bP],[bV],BS⟩:=aL (ak Vq aK) 0xf1de28060d func66
def Vu:aE E ⟨14,[.v hT,.v ea],[Ad,aF,aF],BU⟩:=aL (ak C4 (ak Xe (ak Xd (ak Xc (ak Xb (ak Xa (ak W9 (ak MT (ak MS (ak MK (ak Wy (ak C3 (ak Mo aK))))))))))))) 0x156227453de34a21bce6fe0c2a7a08bdb35c193979769ba34d07470925991e6a3640a7628c1a80118d0d5a43897fe7dc0c291126ffc292700637e5a76a759e469f6d2431f98c27be0f2fc46bd6d683359d021e0f8c2933af822d095455afad40a2b5520a14afa0872a57f68a2e5727f6329b8aff12dcbd2b305df312098ee4d80690c256dc34be52c5727eac620818f3d787efa2cf0f6ffe9d9f7454d99451f5fe1bbea9a3aa0686c5fcaa093f8dc60fd7975438b42ddfda0f53634fb694e3b4d0ddff8b3a9df13c8b0719a240835875d608df5069488a4617a8d66e5416c91ce6878536db060d func14
def Vw:aE E ⟨15,[.v Eb,.v Eb],[.bool],Bs⟩:=aL (ak MO (ak Mr aK)) 0x7c1c0f828060d func15
def VC:aE E ⟨174,[.v bP,.v bP],[bM,bM,aF],AP⟩:=aL (ak wh aK) 0x6debc28c956c0dd33bbb83df416ea3999ba9b060d func174
def VB:aE E ⟨172,[.v bP,.v bP],[bP],AK⟩:=aL (ak VC (ak CY (ak CX (ak Mf (ak CW aK))))) 0x19e334c48060d func172
def W3:aE E ⟨47,[.v hT,.v ea,.v kD],[Is],xO⟩:=aL (ak GR (ak Mo (ak Ml (ak Mh (ak Md aK))))) 0xb84d097ce92bd6826be1ad4942883e976b980c3e7288f95a2bcc99232b7bea9f81cd06ff0a328511f8d1111a33abc93274b33e9d95f674182c75eb2104376a46dd2ed888940564ddfa2ffde875204f8f0d9171a296140ffb5465c2175512c18e2585874be2ddbcdfe7a0c1b23db7a2d5d8eccb14da8df8e11887ef90e35342c079908f68b20209dc2faf4497868163fe3c8ff0c2d33ae6006c0f10f74400480a2e563e0aab6ac48dfac71eea72125e4bc29b6db6c2860d func47
def WP:aE E ⟨286,[.v bV,.v bV],[bV,bV],Ba⟩:=aL aK 0x60d func286
def WC:aE E ⟨268,[.v bV,.v bV],[bV,bV],ET⟩:=aL (ak WP aK) 0x60d func268
def V9:aE E ⟨232,[.v ea,.v aF],[iv],Bo⟩:=aL (ak WC aK) 0x4f1df1c7b43d69ee5cbeb6acff078e0b6c79603b14c9a29972590773e51e39053060d func232
def VD:aE E ⟨179,[.v j8,.v aF],[iv,.bool],BW⟩:=aL (ak V9 aK) 0x8a577a4915c00aa6a9247576627386d846718613a822be88c5866006e60ebb93013c46523febc29b060d func179
def VH:aE E ⟨182,[.v mN,.v aF],[.bool],BY⟩:=aL aK 0x23d66fc008624bdfe95654edcc34053e6b0a1e14db060d func182
def VJ:aE E ⟨184,[.v j8,.v ea,.v mN],[.bool],BX⟩:=aL (ak GM aK) 0x2a7b180181daa81aac5eb8bc29b6c2860d func184
def VG:aE E ⟨181,[.v mN,.v (.ptr .dt aF)],[.bool],E5⟩:=aL (ak VH aK) 0x4b828060d func181
def Wa:aE E ⟨233,[.v j8,.c 181 [(.ptr .dt aF)]],[aF],EX⟩:=aL (ak VG aK) 0x3195177853060d func233
def VE:aE E ⟨180,[.v j8,.c 181 [(.ptr .dt aF)]],[.bool],Bk⟩:=aL (ak Wa aK) 0x60d func180
def VI:aE E ⟨183,[.v mN,.v (.ptr .bK j8),.v (.ptr .dt ea)],[.bool],E6⟩:=aL (ak VJ aK) 0x12e0e02860d func183
def Wb:aE E ⟨233,[.v j8,.c 183 [(.ptr .bK j8),(.ptr .dt ea)]],[aF],EY⟩:=aL (ak VI aK) 0x3195177853060d func233
def VF:aE E ⟨180,[.v j8,.c 183 [(.ptr .bK j8),(.ptr .dt ea)]],[.bool],Bl⟩:=aL (ak Wb aK) 0x60d func180
def U9:aE E ⟨114,[.v ji,.v j8],[aF],tj⟩:=aL (ak GM (ak VD (ak GL (ak VF (ak VE aK))))) 0x302a1d813c451c9e409c749f76f957f31609d78268caf65751e1194a083817c095ee1ac0bd73d784ece531e9c3d2cdb68776d625924cdf0e85fd0587d05d021347c82252d55954536db060d func114
def Mm:aE E ⟨186,[.v ea,.v aF],[aF],vy⟩:=aL aK 0x3195177853060d func186
def We:aE E ⟨238,[.v aF,.v aF,.v aF],[aF],AJ⟩:=aL aK 0xe45cd62513734c2860d func238
def C2:aE E ⟨237,[.v bP],[.bool],s1⟩:=aL (ak tX aK) 0x18778600d func237
def Mn:aE E ⟨188,[.v sJ],[aF],vh⟩:=aL (ak We (ak C2 aK)) 0x378e3b8d8019ea9db0f0a6c0d func188
def Wd:aE E ⟨236,[.v ea,.v aF],[.bool],AI⟩:=aL aK 0x42b730c7146777853060d func236
def VK:aE E ⟨187,[.v sJ,.v ea,.v sJ],[w4,aF],AE⟩:=aL (ak C2 (ak Wd (ak Mn (ak VB (ak CU aK))))) 0x668b563b6666b3586218c091ce2e78a8745777bf61bbac5092b9ad898555baed2a1e96855856dd43a3d603dbbcb239fa0273fc47f33fe86317570afd36804d7e1f1ee36ac316045d49c1909f8852fc4edf45062e16e5807c783c00ff15296d1b55bc97abbb6b89dc3ae1a16e45e50d203eabf75dbc36ea5e2223f6609c7ca843906163095520a3cf9cdee438858fca3990871df4926b4b0ca09c251a13451afb00f1eb013d88aa0ebae1a749a15d36c2860d func187
def Va:aE E ⟨115,[.v w3,.v mN,.v j8,.v (.bb .dt sJ)],[w4,aF],AV⟩:=aL (ak VK (ak Mm (ak L2 aK))) 0x4eb4d381b3f8d28d5f83d87144fc1133a6d6ae23096bd948910325f4233acd3070ffe33d9e03de57c0382b493c7e899c9713b42979a8481aace1652fb606e770c17cd048ff2ab27aeafbad49e0c330b58671210ffbb774500f3cd4c0383fc5638ca9b935a4ae3c5e279f56a67e047b31cd5c5d45c486fe65ef1ecb77fbba5eb3e9a7a2648477374765ad53e8d48d24638a6ce5417891fc5e14db0e2860d func115
def MC:aE E ⟨239,[.v (.ptr .dt (.st (.pr sJ (.pr Aa (.pr (.bb .dt bP) .nil))))),.v aF,.v aF,.v aF],[bP],vi⟩:=aL (ak Mj (ak L1 (ak L0 aK))) 0xbeb76a5baff835ff1db9fbb4d7e90d6277953b18d16d527a8b4f22fde4456efae729db14508ef04df78d411e77bc40632d107451bc2c1243415a9f555a00ce0aac7cf62db65e73fa14bf6ce4a4dab3337530e2860d func239
def Wf:aE E ⟨240,[.m Ed,.v aF,.v aF,.v bV],[.bool],xn⟩:=aL (ak C7 (ak GS aK)) 0xb30bc87b1a73772eb99527f6ca369f363fb268d6f22abd93310db3b198d662a918dcbe4b9eeb0c3bd88bc5f98652a86b0775be0234c6cab133a384da044d4c38a1d func240
def VL:aE E ⟨189,[.m Ed,.v aF],[aF],AG⟩:=aL (ak C7 (ak C6 (ak Wf (ak MC (ak C2 (ak L6 (ak L5 (ak L4 aK)))))))) 0x378c05970904987740d62091478536db6c1d func189
def VM:aE E ⟨190,[.v (.ptr .dt (.st (.pr sJ (.pr Aa (.pr (.bb .dt bP) .nil))))),.v aF],[w4,aF],AH⟩:=aL (ak MC (ak C2 (ak CU aK))) 0x241ed08fad568d1e249fdd906760b536baae54a3edf5052b9160a0262ea236209bbe3c5b3b7bc1a279e71e72dcd41e69008a4c35a670f356c94cd1e14db060d func190
def Vb:aE E ⟨116,[.v oz,.v aF,.v aF],[z7,oz,aF,aF],AF⟩:=aL (ak VM (ak VL (ak Mn aK))) 0x1f0a4378f6ae7dbfa840c069ca1db74e99c934e2bf60a73d433186b46993d43da3c97518f32205f491a122c3991690fa98a7448172404700ea76b255ecf72ef761c6a5648ceeb9ae45d0f9d3372189d69ad7619385e6fa8857077a1658350cce2588acce7e07736c3fabb4ec9f7840670a8b1d3bd34b6eb7556d42e9193b9ea3af3bac010f5ffc39d6f600c31177e173dcf29860445216ad068ec1dd3cfd05a277dbd6b3c3539bfe71f6e369a8f2a9ba5ef73009fe32baa7f40397c0ae78a074586a977271aa2af9ab934ba6c2860d func116
def Vc:aE E ⟨117,[.m Ae,.v mN,.v Aa],[],AA⟩:=aL (ak Mm aK) 0x275a14d5bb14a082617a4d7e22d648f7d14aaa77f56cbdc2ae2a1802231f3b5b35951d2d3db4ce05a3b86adf89262a218ef8e39faf0d0c5b760b0723f02fe74415899196c3a2cccb586fa3d75a43d22180c2d82330182c9a5b0a1d func117
def W4:aE E ⟨48,[.v hT,.v ea,.v j8],[uX,aF,aF],oM⟩:=aL (ak MR (ak MQ (ak MP (ak Vc (ak Vb (ak Va (ak U9 aK))))))) 0x5c949c5fffc7bd650e90ed8a67fab78d3dbfcc183d5f0fe7f6e62dc234ab47b687ec108892d84381bdc36443902041f30e4abee6f8151e29d8d799f627f76d62255e02cab327d68a62853908e535a3e7aa5807516288f2333f3eee7f2324e2484496b7dcb2f5f167a15088f042d526cc21933b1c9b3d0f79499a1f00f5669f97f88a77659a6277158e6573fdd6e80afe726e7930ea4f94d926e6e772cf920b0c2fea4a471262aa12f29f03e1e4f8b75b101c9c46fc0855cee6bf633ba93868cc15de134328b48d8a447b7e4504db790ffb6cdaab2e09fc2dfe5b056b1bea96ef0a9d9f3987486b89416dc40d99379d60908d178b6185af8fc904cc1cd54830f1f7761ae5354a6a03bcfdb4df6466eee2d4321110f4ddf422e17c38d7aeafc927e04ea3299940cfac3d0b22295ce8fbe7ff347ad59aee4dcce38a994835accabebc29b6c2860d func48
def Wg:aE E ⟨241,[.v j8,.v aF],[aF],yc⟩:=aL aK 0xb37f85cf6b0c414853060d func241
def VN:aE E ⟨191,[.v ji,.v j8],[aF],th⟩:=aL (ak C5 (ak Wg (ak GD (ak L7 aK)))) 0x2ae58ecd82c41aa06e4c9878b2f2b25acc7a6ef8f99cc5911cfa735238c3174344edba94f5b3638490c0f4c8f2fd70998c9b289d0f0a6db060d func191
def Vd:aE E ⟨118,[.v hT,.v ea,.v j8],[aF],vH⟩:=aL (ak MT (ak MS (ak VN aK))) 0x90fc00c7148536c2860d func118
def W5:aE E ⟨49,[.v hT,.v ea,.v j8],[uX,aF,aF],ri⟩:=aL (ak Vu (ak Vd aK)) 0x29047c3d08fff54d80e02860d func49
def uG:ik:=⟨9,[.v kD,.v aF,.v aF,.v aF,.v aF],[.bool],E4⟩
def Xl:aE E uG:=aL (ak W5 (ak W4 (ak W3 (ak wi (ak Vw (ak Ve (ak U8 aK))))))) 0x5d9be2755dd039f21b092f45087ba4d8e0255b8f40772e87c1515b6da4d9f41a691678173136c48e2860d func9
end
def aI (a:Nat):Int:=4294967296^a
def af:ad5->Int
 |[]=>0
 |x::a=>x+4294967296*af a
def aP (b:ad5):Prop:=∀a∈b,0<=a/\a<4294967296
def aP.nil:aP []:=λ_ a=>by cases a
def aP.cons:aP (e::b)↔(0<=e/\e<4294967296)/\aP b:=by
 constructor
 ·exactλd=>⟨d e (jB ..),λc a=>d c (fk _ a)⟩
 rintro⟨f,g⟩ c a;rcases dx.1 a with rfl|a
 ·exact f
 exact g c a
def aP.append {d:ad5}:aP (b++d)↔aP b/\aP d:=by
 constructor
 ·exactλe=>⟨λc a=>e c (nw _ a),λc a=>e c (lw _ a)⟩
 rintro⟨f,g⟩ c a;rcases eN.1 a with a|a
 ·exact f c a
 exact g c a
def aP.snoc (a:aP b) (c:0<=e) (d:e<4294967296):aP (b++[e]):=
 aP.append.2 ⟨a,aP.cons.2 ⟨⟨c,d⟩,aP.nil⟩⟩
def aP.take {a:ad5} (b:aP a) (d:Nat):aP (a.take d):=λe c=>b e (List.mem_of_mem_take c)
def aP.drop {a:ad5} (b:aP a) (d:Nat):aP (a.drop d):=λe c=>b e (List.mem_of_mem_drop c)
def aP.ky (b:Nat):aP (List.replicate b (0:Int)):=λc a=>by obtain⟨_,rfl⟩:=List.mem_replicate.1 a;exact⟨qG _,aa⟩
def aP.set {c:ad5} (d:aP c) {g:Nat} {b:Int} (e:0<=b) (f:b<4294967296):aP (c.set g b):=λh a=>by
 rcases List.mem_or_eq_of_mem_set a with a|rfl
 ·exact d h a
 exact⟨e,f⟩
def aP.get (a:aP b) {n:Nat} (c:n<b.length):0<=b[n]/\b[n]<4294967296:=a _ (bA c)
def eg (a:Nat):0<aI a:=nq aa
def gD (a:Nat):aI (a+1)=4294967296*aI a:=by unfold aI;rw[Int.pow_succ,g3]
def sj (a b:Nat):aI (a+b)=aI a*aI b:=jz ..
def wL:aI 0=1:=rfl
theorem ku (a b:ad5):af (a++b)=af a+aI a.length*af b:=by
 induction a with
 |nil=>simp[af,wL]
 |cons d a c=>
  simp only[jb,af,im,gD,c];grind
def pi (a:ad5) (b:Int):af (a++[b])=af a+aI a.length*b:=by rw[ku];simp[af]
def dH {l:ad5} (a:aP l):0<=af l:=by
 induction l with
 |nil=>exact qG _
 |cons c l b=>
  have a:=aP.cons.1 a;have:=b a.2;simp only[af];omega
def fq (a:aP b):af b<aI b.length:=by
 induction b with
 |nil=>decide
 |cons d b c=>
  have a:=aP.cons.1 a;have:=c a.2;simp only[af,im,gD];omega
def gC (c:a<b.length):af (b.take (a+1))=af (b.take a)+aI a*b[a]:=by rw[ir,a9 c];show af (b.take a++[b[a]])=_;rw[pi,dZ,fu U]
def nj (b:ad5) (a:Nat) (c:a<=b.length):af b=af (b.take a)+aI a*af (b.drop a):=by
 conv=>lhs;rw[<-kW a b]
 rw[ku,dZ,fu c]
def kv (c:a<b.length):af (b.drop a)=b[a]+4294967296*af (b.drop (a+1)):=by rw[D3 c];rfl
def n6 (a:Nat):af (List.replicate a (0:Int))=0:=by
 induction a with
 |zero=>rfl
 |succ a b=>simp only[List.replicate_succ,af,b];rfl
theorem ln (c:a<b.length) (d:Int):af (b.set a d)=af b+aI a*(d-b[a]):=by
 induction b generalizing a with
 |nil=>simp at c
 |cons f b e=>
  cases a with
  |zero=>simp only[List.set_cons_zero,af,wL,List.getElem_cons_zero];grind
  |succ a=>
   simp only[List.set_cons_succ,af,List.getElem_cons_succ,gD];rw[e (by simpa using c)];grind
def ts:Nat->Nat->ad5
 |0,_=>[]
 |f+1,a=>if a=0 then[] else((a %4294967296:Nat):Int)::ts f (a/4294967296)
def bR (a:Nat):ad5:=ts (Nat.log2 a+1) a
def dE (b:ad5):Prop:=∀a,b.getLast?=some a->a≠0
def RY:∀{a n:Nat},n<2^a->aP (ts a n)/\af (ts a n)=n/\dE (ts a n):=by
 intro a
 induction a with
 |zero=>
  intro n b;obtain rfl:n=0:=(by simpa using b);exact⟨aP.nil,rfl,λf b=>by cases b⟩
 |succ a j=>
  intro n b;unfold ts;split
  ·rename_i h;subst h;exact⟨aP.nil,rfl,λf b=>by cases b⟩
  rename_i k;obtain⟨i,d,g⟩:=j (n:=n/4294967296) (by rw[jD] at b;omega);refine⟨aP.cons.2 ⟨⟨U,U⟩,i⟩,?_,?_⟩
  ·simp only[af,d];omega
  intro f c;cases e:ts a (n/4294967296) with
  |nil=>
   rw[e] at c d;simp only[af] at d;simp only[List.getLast?_singleton,bS] at c;omega
  |cons m l=>
   rw[e,List.getLast?_cons_cons] at c;rw[e] at g;exact g f c
def Fg (a:Nat):aP (bR a)/\af (bR a)=a/\dE (bR a):=RY Nat.lt_log2_self
def iW (a:Nat):aP (bR a):=(Fg a).1
def kf (a:Nat):af (bR a)=a:=(Fg a).2.1
def mX (a:Nat):dE (bR a):=(Fg a).2.2
def dE.tail (c:dE (e::b)):dE b:=λd a=>by
 cases b with
 |nil=>cases a
 |cons f b=>exact c d (by rw[List.getLast?_cons_cons];exact a)
def dE.zero (e:aP b) (c:dE b) (d:af b=0):b=[]:=by
 induction b with
 |nil=>rfl
 |cons h b g=>
  obtain⟨⟨i,j⟩,a⟩:=aP.cons.1 e;have k:=dH a;simp only[af] at d;have f:h=0:=U;have:=g a c.tail U;subst this;subst f;exact absurd rfl (c 0 rfl)
def dE.uniq:∀{a b:ad5},aP a->aP b->dE a->dE b->af a=af b->a=b
 |[],b,_,e,_,g,c=>(dE.zero e g (by rw[<-c];rfl)).symm
 |a,[],d,_,f,_,c=>dE.zero d f (by rw[c];rfl)
 |x::a,k::b,d,e,f,g,c=>by obtain⟨⟨l,m⟩,h⟩:=aP.cons.1 d;obtain⟨⟨n,o⟩,i⟩:=aP.cons.1 e;simp only[af] at c;have j:x=k:=U;have:=dE.uniq h i f.tail g.tail U;rw[j,this]
def R1 (c:aP b) (d:dE b) (e:af b=a):b=bR a:=
 dE.uniq c (iW a) d (mX a) (by rw[e,kf])
def dE.eq (a:aP b) (c:dE b):b=bR (af b).toNat:=
 R1 a c (by have:=dH a;omega)
def dE.low (c:aP b) (f:dE b) (a:b≠[]):aI (b.length-1)<=af b:=by have d:=List.dropLast_concat_getLast a;have i:=f (b.getLast a) (List.getLast?_eq_some_getLast a);have j:=c _ (List.getLast_mem a);rw[<-d,pi];have k:=dH (l:=b.dropLast) (λh g=>c h (List.dropLast_subset _ g));have e:1<=b.getLast a:=U;have m:=il e (dX (eg b.dropLast.length));simp only[oi,zV,uQ];omega
theorem XT (e:a<c):aI a<aI c:=by obtain⟨b,rfl⟩:∃b,c=a+(b+1):=⟨c-a-1,U⟩;rw[sj,gD];have f:=eg b;have d:=eg a;have g:1*aI a<(4294967296*aI b)*aI a:=sp U d;grind
def nV {m n:Nat} (b:m<=n):aI m<=aI n:=by
 rcases bg m n with a|a
 ·exact dX (XT a)
 obtain rfl:m=n:=U;exact qG _
def p2 {n k:Nat} (d:(n:Int)<aI k):(bR n).length<=k:=by
 by_cases b:bR n=[]
 ·rw[b];exact bE _
 have c:=dE.low (iW n) (mX n) b;rw[kf] at c;rcases bg k (bR n).length with a|a
 ·have:=nV (m:=k) (n:=(bR n).length-1) U;omega
 exact a
def J2 (a:Nat):(a:Int)<aI (bR a).length:=by have:=fq (iW a);rwa[kf] at this
def Fh:bR 0=[]:=rfl
def Ff:bR a=[]↔a=0:=by
 constructor
 ·intro b;have:=kf a;rw[b] at this;simp only[af] at this;omega
 rintro rfl;rfl
def fY (a:ad5):ad5:=bR (af a).toNat
def OH (g:aP b) (h:a<=b.length) (f:∀c,a<=c->(j:c<b.length)->b[c]=0) (i:dE (b.take a)):b.take a=fY b:=by have d:af b=af (b.take a):=(by have e:b.drop a=List.replicate (b.length-a) 0:=(by refine List.ext_getElem ac λc d e=>?_;rw[List.getElem_drop,List.getElem_replicate];exact f _ U _);rw[nj b a h,e,n6];simp);rw[fY,d];exact dE.eq (g.take a) i
def HM (a:ad5):aP (fY a):=iW _
def OG (a:ad5):dE (fY a):=mX _
def HN (a:aP b):af (fY b)=af b:=by have:=dH a;rw[fY,kf];omega
def OF (a:aP b):(fY b).length<=b.length:=by have c:=fq a;have:=dH a;exact p2 U
def S6 {b c:List d} (g:b.length=c.length) (f:∀a,a<b.length->b[a]?=c[a]?):b=c:=by
 apply g4;intro a;rcases bg a b.length with e|e
 ·exact f a e
 rw[hR e,hR U]
def wS (a c:ad5) (o:a.length<4611686018427387904):tb (a,c,())=some (a==c,()):=by
 rw[<-ae.eq_iff];unfold tb;simp only[ae.bY,ae.bZ,ae.ag];refine⟨λd=>?_,λd=>?_⟩
 ·simp at d;have:a≠c:=λf=>d (by rw[f]);simp[this]
 simp at d;have m:a.length=c.length:=U;refine ae.for (i0:=0) a.length (λe _=>∀b,b<e->a[b]?=c[b]?) rfl ac (bE _) ?_ ?_
 ·intro e n _ k g;simp only[ae.bY,ae.bZ,ae.ag,ae.hV];refine⟨λ_=>⟨k,U,λl=>?_,λj=>?_⟩,λh=>?_⟩
  ·simp at l;have:a≠c:=λf=>l (by simp[f]);simp[this]
  ·refine⟨fJ U,λb p=>?_⟩;rcases bg b e with i|i
   ·exact g b i
   obtain rfl:b=e:=U;simp at j;rw[a9 k,a9 U,j]
  simp at h;omega
 intro n g;simp only[ae.bY,ae.bZ,ae.ag];refine⟨λh=>by simp at h,λ_=>?_⟩;simp[S6 m g]
def nf {b:List d} (c:a<b.length):b.take a++[b[a]]=b.take (a+1):=by rw[ir,a9 c];rfl
def y8:b.Pairwise (· < ·)↔∀d,(e:d+1<b.length)->b[d]<b[d+1]:=by
 constructor
 ·intro e d k;exact(gj.1 e) d (d+1) U k U
 intro e;rw[gj];have m:∀c a (f:a<b.length) (g:a+c+1<b.length),b[a]<b[a+c+1]:=by
  intro c
  induction c with
  |zero=>intro a f g;exact e a g
  |succ c l=>
   intro a f g;have i:=l a f U;have j:=e (a+c+1) U;exact Int.lt_trans i j
 intro a h f g n;obtain⟨c,rfl⟩:∃c,h=a+c+1:=⟨h-a-1,U⟩;exact m c a f g
def H2 (b:ad5) (r:b.length<4611686018427387904):xQ (b,())=some (decide (b.Pairwise (· < ·)),()):=by
 rw[<-ae.eq_iff];unfold xQ;simp only[ae.bZ];by_cases k:b.length=0
 ·have:b=[]:=D4.1 k;subst this;refine ae.loop (λo=>o=(1,())) (λ_=>0) rfl ?_;rintro _ rfl;simp[ae.ag]
 refine ae.for (i0:=1) b.length (λc _=>∀a,(j:a+1<b.length)->a+1<c->b[a]<b[a+1]) rfl (λa _ j=>by omega) U ?_ ?_
 ·rintro c _ p l e;simp only[ae.bY,ae.bZ,ae.ag,ae.hV];have i:IntKind.i64.wrap ((c:Int)-1)=((c-1:Nat):Int):=(by rw[wrap64 U U];omega);rw[i];refine⟨λ_=>⟨l,?_⟩,λf=>?_⟩
  ·rw[ae.hV];refine⟨U,?_⟩;refine⟨λm=>?_,λh=>⟨fJ U,λa d q=>?_⟩⟩
   ·have:¬b.Pairwise (· < ·):=λn=>by
     have:=y8.1 n (c-1) U;simp only[(U:c-1+1=c)] at this;simp at m;omega
    simp[this]
   rcases bg (a+1) c with g|g
   ·exact e a d g
   obtain rfl:c=a+1:=U;simp at h;exact h
  simp at f;omega
 intro s e;simp only[ae.bY,ae.bZ,ae.ag];refine⟨λf=>by simp at f,λ_=>?_⟩;have:b.Pairwise (· < ·):=y8.2 (λa d=>e a d d);simp[this]
def mark (a:ad1) (c:ad5):ad1:=c.foldl (λa b=>a.set b.toNat true) a
section
def pn (a:ad5) (c:Int):Prop:=a.Pairwise (· < ·)/\∀b∈a,0<=b/\b<c
def ae.count {r:Type} {l:d->Option (d⊕r)} {j:r->Prop} (e:d->Int) (c:Nat) (f:Nat->d->Prop) {i0:Nat} {m:d} (v:e m=(i0:Int)) (s:f i0 m) (p:i0<=c) (x:∀a b,i0<=a->a<c->e b=(a:Int)->f a b->ae (l b) (λ|.inl i=>e i=((a+1:Nat):Int)/\f (a+1) i|.inr h=>j h)) (u:∀b,e b=(c:Int)->f c b->ae (l b) (λ|.inl _=>False|.inr h=>j h)):ae (h2.loop l m) j:=by
 refine ae.loop (λb=>∃a:Nat,i0<=a/\a<=c/\e b=(a:Int)/\f a b) (λb=>c-(e b).toNat) ⟨i0,a2 _,p,v,s⟩ ?_;rintro b ⟨a,w,p,k,q⟩;rcases bg a c with o|o
 ·refine(x a b w o k q).mono ?_;rintro(i|h) g
  ·obtain⟨n,t⟩:=g;exact⟨⟨a+1,U,U,n,t⟩,by rw[k,n];simp;omega⟩
  exact g
 obtain rfl:a=c:=U;refine(u b k q).mono ?_;rintro(i|h) g
 ·exact g.elim
 exact g
open Classical in
def Qu (b:ad5) (g:Int) (D:b.length<4611686018427387904):AY (b,g,())=some (decide (pn b g),()):=by
 rw[<-ae.eq_iff];unfold AY;simp only[ae.bZ];refine ae.count (λr=>r.2.1) b.length (λa r=>r.1=(if a=0 then-1 else b.getD (a-1) 0)/\(b.take a).Pairwise (· < ·)/\∀f∈b.take a,0<=f/\f<g) (i0:=0) rfl ⟨rfl,ac,ac⟩ (bE _) ?_ ?_
 ·rintro a ⟨m,A,_⟩ _ e h ⟨j,k,l⟩;simp only at h j;subst h;simp only[ae.bY,ae.bZ,ae.ag,ae.hV];have z:∀f∈b.take a,f<=m:=by
   intro f d;rw[j];obtain⟨q,y,rfl⟩:=fC.1 d;simp only[dZ] at y;have x:a≠0:=U;rw[ah x];simp only[wV,List.getD,a9 (U:a-1<b.length),jE];rcases bg q (a-1) with c|c
   ·have:=(gj.1 k) q (a-1) (by simp;omega) (by simp;omega) c;simp only[wV] at this;omega
   have:q=a-1:=U;subst this;exact qG _
  have E:-1<=m:=by
   rw[j];by_cases i:a=0
   ·rw[ai i];exact qG _
   rw[ah i];simp only[List.getD,a9 (U:a-1<b.length),jE];have:=l (b[a-1]) (fC.2 ⟨a-1,by simp;omega,ac⟩);omega
  have t:(b[a]<=m\/g<=b[a])->¬pn b g:=by
   rintro c ⟨B,u⟩;rcases c with c|c
   ·rw[j] at c;by_cases i:a=0
    ·rw[ai i] at c;have:=u _ (bA e);omega
    rw[ah i] at c;simp only[List.getD,a9 (U:a-1<b.length),jE] at c;have:=(gj.1 B) (a-1) a U e U;omega
   have:=u _ (bA e);omega
  refine⟨λ_=>⟨e,λn=>⟨λo=>?_,λo=>?_⟩,λn=>?_⟩,λp=>by simp at p;omega⟩
  ·have:=t (.inr (by simpa using o));simp[this]
  ·simp at n o;refine⟨fJ U,?_,?_,?_⟩
   ·simp[List.getD,e]
   ·rw[<-nf e,List.pairwise_append];refine⟨k,ac,λv w C s=>?_⟩;simp only[eI] at s;subst s;have:=z v w;omega
   rw[<-nf e];intro f d;rcases eN.1 d with d|d
   ·exact l f d
   simp only[eI] at d;subst d;omega
  have:=t (.inl (by simpa using n));simp[this]
 rintro⟨m,A,_⟩ h ⟨j,k,l⟩;simp only at h;subst h;simp only[ae.bY,ae.ag];refine⟨λp=>by simp at p,λ_=>?_⟩;rw[ny] at k l;have:pn b g:=⟨k,l⟩;simp[this]
def Ig (a b:Int):sY (a,b,())=some (decide (a<b),()):=by unfold sY q3;simp
def O6 (a:Int) (b:0<=a) (c:a<18446744073709551616):IntKind.u64.wrap a=a:=by unfold IntKind.wrap;rw[ah (by simp[IntKind.signed])];show a %18446744073709551616=a;omega
def H5 (d:ad5) (f:Int) (F:d.length<4611686018427387904) (p:d.Pairwise (· < ·)):ae (s7 (d,f,())) (λA=>A.2.1=decide (f∈d)):=by
 unfold s7;simp only[ae.bZ];refine ae.mono (P:=λz=>∃a:Nat,z.1=(a:Int)/\a<=d.length/\(∀b,(e:b<d.length)->b<a->d[b]<f)/\(∀b,(e:b<d.length)->a<=b->f<=d[b])) ?_ ?_
 ·refine ae.loop (λn=>∃a c:Nat,n.1=(a:Int)/\n.2.1=(c:Int)/\a<=c/\c<=d.length/\(∀b,(e:b<d.length)->b<a->d[b]<f)/\(∀b,(e:b<d.length)->c<=b->f<=d[b])) (λn=>(n.2.1-n.1).toNat) ⟨0,d.length,rfl,rfl,bE _,a2 _,λb _ e=>by omega,λb j k=>by omega⟩ ?_;rintro⟨y,G,_⟩ ⟨a,c,rfl,rfl,E,r,j,k⟩;simp only[ae.bY,ae.bZ,ae.ag];refine⟨λi=>?_,λl=>?_⟩
  ·have i:a<c:=(by simpa using i);have al:IntKind.i64.wrap ((a:Int)+c)=(a:Int)+c:=wrap64 U U;rw[al,O6 _ U U];have x:dk IntKind.u64 ((a:Int)+c) 1=some (((a+c)/2:Nat):Int):=by
    unfold dk;rw[ai U];congr 1;show((a:Int)+c).fdiv (2^min 1 64)=_;rw[show(2:Int)^min 1 64=2 from rfl,zQ _ U];omega
   rw[x];simp only[ae.ag];have t:IntKind.i64.wrap (((a+c)/2:Nat):Int)=(((a+c)/2:Nat):Int):=wrap64 U U;rw[t,ae.hV];refine⟨U,?_⟩;rw[Ig];simp only[ae.ag,ae.bY];have q:(a+c)/2<d.length:=U;refine⟨λg=>?_,λg=>?_⟩
   ·have g:d[(a+c)/2]<f:=(by simpa using g);rw[fJ U];refine⟨⟨(a+c)/2+1,c,rfl,rfl,U,r,λb h v=>?_,k⟩,U⟩;rcases bg b ((a+c)/2) with e|e
    ·exact Int.lt_trans ((gj.1 p) b _ h q e) g
    have:b=(a+c)/2:=U;subst this;exact g
   have g:f<=d[(a+c)/2]:=(by simpa using g);refine⟨⟨a,(a+c)/2,rfl,rfl,U,U,j,λb h v=>?_⟩,U⟩;rcases bg ((a+c)/2) b with e|e
   ·have:=(gj.1 p) _ b q h e;omega
   have:b=(a+c)/2:=U;subst this;exact g
  have u:a=c:=(by have:¬a<c:=(by simpa using l);omega);subst u;exact⟨a,rfl,r,j,k⟩
 rintro⟨y,_⟩ ⟨a,rfl,D,j,k⟩;simp only;have s:(∀e:a<d.length,d[a]≠f)->f∉d:=by
  intro m w;obtain⟨b,h,rfl⟩:=fC.1 w;rcases kX b a with e|e|e
  ·have:=j b h e;omega
  ·subst e;exact m h rfl
  have B:=k a U (a2 _);have C:=(gj.1 p) a b U h e;omega
 simp only[ae.bY,ae.bZ,ae.ag,ae.hV];refine⟨λi=>?_,λl=>?_⟩
 ·have i:a<d.length:=(by simpa using i);refine⟨i,λm=>?_,λo=>?_⟩
  ·have m:d[a]≠f:=(by simpa using m);refine⟨i,?_⟩;unfold Bq;simp[ae.ag];exact s (λ_=>m)
  have o:d[a]=f:=(by simpa using o);simp[<-o]
 have l:¬a<d.length:=(by simpa using l);simp;exact s (λe=>absurd e l)
structure da (aD:adU):Prop where
 asc:∀v,(h:v<aD.length)->pn aD[v] aD.length
 FU:∀v,(h:v<aD.length)->(v:Int)∉aD[v]
 sym:∀v,(h:v<aD.length)->∀w:Nat,(hw:w<aD.length)->(w:Int)∈aD[v]->(v:Int)∈aD[w]
open Classical in
def gG (a:adU):Int:=if 200<a.length then 6 else if da a then 0 else 1
open Classical in
def FW (a:adU) (b:Nat) (d:Int) (g:b<a.length) (e:a[b].length<4611686018427387904) (f:a[b].Pairwise (· < ·)):vo ((a,()),(b:Int),d,())=some (decide (d∈a[b]),()):=by rw[<-ae.eq_iff];unfold vo;simp only[ae.bZ,ae.hV];refine⟨g,(H5 _ _ e f).mono ?_⟩;rintro⟨i,h,_⟩ c;simp only at c;rw[ae.ag,c]
def zL (a:adU) (u:∀L∈a,L.length<4611686018427387904):vl ((a,()),())=some (gG a,()):=by
 classical
 rw[<-ae.eq_iff];unfold vl;simp only[ae.bY,ae.bZ,ae.ag];refine⟨λg=>?_,λg=>?_⟩
 ·have:200<a.length:=(by simp at g;omega);simp[gG,this]
 have z:¬200<a.length:=(by simp at g;omega);have y:¬da a->(1:Int)=gG a:=λg=>(by simp[gG,z,g]);refine ae.mono (P:=λl=>(l=.inr (1,())/\¬da a)\/(l=.inl ()/\∀c,(g:c<a.length)->pn a[c] a.length/\(c:Int)∉a[c])) ?_ ?_
 ·refine ae.for (i0:=0) a.length (λd _=>∀c,c<d->(g:c<a.length)->pn a[c] a.length/\(c:Int)∉a[c]) rfl (λc h=>by omega) (bE _) ?_ ?_
  ·rintro d _ _ j p;simp only[ae.bY,ae.bZ,ae.ag,ae.hV];refine⟨λ_=>⟨j,?_⟩,λi=>by simp at i;omega⟩;rw[Qu _ _ (u _ (bA j))];simp only[ae.ag];refine⟨λq=>?_,λq=>.inl ⟨trivial,λf=>?_⟩⟩
   ·have q:pn a[d] a.length:=(by simpa using q);rw[FW a d d j (u _ (bA j)) q.1];simp only[ae.ag,ae.bY];refine⟨λx=>.inl ⟨trivial,λf=>f.FU d j (by simpa using x)⟩,λx=>⟨fJ U,λc h C=>?_⟩⟩;rcases bg c d with n|n
    ·exact p c n C
    obtain rfl:c=d:=U;exact⟨q,by simpa using x⟩
   have:=f.asc d j;simp[this] at q
  intro A p;simp only[ae.bY,ae.ag];exact⟨λi=>by simp at i,λ_=>.inr ⟨trivial,λc h=>p c h h⟩⟩
 rintro l (⟨rfl,f⟩|⟨rfl,t⟩)
 ·simp only[ae.ag,y f]
 simp only[ae.bZ];have F:(∀e,(g:e<a.length)->∀o∈a[e],∀b:Nat,o=(b:Int)->(k:b<a.length)->(e:Int)∈a[b])->da a:=λg=>⟨λe f=>(t e f).1,λe f=>(t e f).2,λe f b k s=>g e f b s b rfl k⟩;refine ae.mono (P:=λl=>(l=.inr (1,())/\¬da a)\/(l=.inl ()/\∀e,(g:e<a.length)->∀o∈a[e],∀b:Nat,o=(b:Int)->(k:b<a.length)->(e:Int)∈a[b])) ?_ ?_
 ·refine ae.for (i0:=0) a.length (λd _=>∀e,e<d->(g:e<a.length)->∀o∈a[e],∀b:Nat,o=(b:Int)->(k:b<a.length)->(e:Int)∈a[b]) rfl (λc h=>by omega) (bE _) ?_ ?_
  ·rintro d _ _ j p;simp only[ae.bY,ae.bZ,ae.hV];refine⟨λ_=>⟨j,?_⟩,λi=>by simp at i;omega⟩;have M:=u _ (bA j);refine ae.mono (P:=λl=>(l=.inr (.inr (.inr (1,())))/\¬da a)\/(l=.inl ()/\∀o∈a[d],∀b:Nat,o=(b:Int)->(k:b<a.length)->(d:Int)∈a[b])) ?_ ?_
   ·refine ae.for (i0:=0) a[d].length (λc _=>∀m,m<c->(g:m<a[d].length)->∀b:Nat,a[d][m]=(b:Int)->(k:b<a.length)->(d:Int)∈a[b]) rfl (λc h=>by omega) (bE _) ?_ ?_
    ·rintro c _ _ h v;simp only[ae.bY,ae.bZ,ae.hV];refine⟨λ_=>⟨h,?_⟩,λi=>by simp at i;omega⟩;have N:=(t d j).1.2 _ (bA h);obtain⟨b,k⟩:∃b:Nat,a[d][c]=(b:Int):=⟨a[d][c].toNat,U⟩;have r:b<a.length:=U;rw[k,FW a b d r (u _ (bA r)) (t b r).1.1];simp only[ae.ag,ae.bY];refine⟨λE=>.inl ⟨trivial,λf=>?_⟩,λK=>⟨fJ U,λm s D B H I=>?_⟩⟩
     ·have:=f.sym d j b r (k▸bA h);simp[this] at E
     rcases bg m c with n|n
     ·exact v m n D B H I
     obtain rfl:m=c:=U;have:B=b:=U;subst this;simpa using K
    intro A v;simp only[ae.bY,ae.ag];refine⟨λi=>by simp at i,λ_=>.inr ⟨trivial,λo J b k r=>?_⟩⟩;obtain⟨m,s,rfl⟩:=fC.1 J;exact v m s s b k r
   rintro l (⟨rfl,f⟩|⟨rfl,w⟩)
   ·simp only[ae.ag];exact .inl ⟨trivial,f⟩
   simp only[ae.ag];refine⟨fJ U,λe f G=>?_⟩;rcases bg e d with n|n
   ·exact p e n G
   obtain rfl:e=d:=U;exact w
  intro A p;simp only[ae.bY,ae.ag];exact⟨λi=>by simp at i,λ_=>.inr ⟨trivial,λc h=>p c h h⟩⟩
 rintro l (⟨rfl,f⟩|⟨rfl,w⟩)
 ·simp only[ae.ag,y f]
 simp only[ae.ag];simp[gG,z,F w]
end
section
inductive eP (A:Nat->Nat->Prop) (k:Nat):Nat->Nat->Prop
 |one {i j:Nat}:A i j->eP A k i j
 |step {i m j:Nat}:A i m->m<k->eP A k m j->eP A k i j
section
variable {A:Nat->Nat->Prop} {k:Nat}
def eP.trans {f:Nat} (b:eP A k c a) (e:a<k) (d:eP A k a f):eP A k c f:=by
 induction b with
 |one b=>exact .step b e d
 |step b g _ h=>exact .step b g (h e d)
def eP.symm (f:∀d e,A d e->A e d) (b:eP A k a c):eP A k c a:=by
 induction b with
 |one b=>exact .one (f _ _ b)
 |step b g _ h=>exact h.trans g (.one (f _ _ b))
def eP.mono {d:Nat} (g:k<=d) (b:eP A k a c):eP A d a c:=by
 induction b with
 |one b=>exact .one b
 |step b f _ e=>exact .step b U e
def eP.first (n:a<c) (j:eP A c a c):∃b,a<b/\b<=c/\eP A a a b/\(b=c\/eP A c b c):=by
 have o:∀{d f:Nat},eP A c d f->f=c->(d=a\/(d<a/\eP A a a d))->∃b,a<b/\b<=c/\eP A a a b/\(b=c\/eP A c b c):=by
  intro d f j
  induction j with
  |@one d f g=>
   intro h e;subst h;refine⟨f,n,a2 _,?_,.inl rfl⟩;rcases e with rfl|⟨e,i⟩
   ·exact .one g
   exact i.trans e (.one g)
  |@step d k f g p i m=>
   intro h e;have l:eP A a a k:=by
    rcases e with rfl|⟨e,i⟩
    ·exact .one g
    exact i.trans e (.one g)
   rcases kX k a with hmu|hmu|hmu
   ·exact m h (.inr ⟨hmu,l⟩)
   ·exact m h (.inl hmu)
   subst h;exact⟨k,hmu,U,l,.inr i⟩
 exact o j rfl (.inl rfl)
def iN (A:Nat->Nat->Prop) (c a:Nat):Prop:=c<a/\eP A a c a/\∀b,c<b->b<a->¬eP A b c b
def iN.uniq {p:Nat} (b:iN A c p) (d:iN A c a):p=a:=by
 rcases kX p a with e|f|e
 ·exact absurd b.2.1 (d.2.2 p b.1 e)
 ·exact f
 exact absurd d.2.1 (b.2.2 a d.1 e)
def iN.fill (b:iN A c a):eP A c c a:=by
 obtain⟨d,g,h,e,i⟩:=eP.first b.1 b.2.1;rcases bg d a with f|f
 ·exact absurd (e.mono U) (b.2.2 d g f)
 obtain rfl:d=a:=U;exact e
def GX (n:c<a) (o:eP A a c a):∃d,d<=a/\iN A c d:=by
 have:∀e,∀a,c<a->a<=e->eP A a c a->∃d,d<=a/\iN A c d:=by
  intro e
  induction e with
  |zero=>intro a i k;omega
  |succ e p=>
   intro a i k l;by_cases h:∃b,c<b/\b<a/\eP A b c b
   ·obtain⟨b,f,j,g⟩:=h;obtain⟨d,q,m⟩:=p b f U g;exact⟨d,U,m⟩
   exact⟨a,a2 _,i,l,λb f j g=>h ⟨b,f,j,g⟩⟩
 exact this a a n (a2 _) o
inductive gP (A:Nat->Nat->Prop):Nat->Nat->Prop
 |refl (u:Nat):gP A u u
 |up {u p v:Nat}:iN A u p->gP A p v->gP A u v
def gP.le (b:gP A a c):a<=c:=by
 induction b with
 |refl=>exact a2 _
 |up d _ e=>have:=d.1;omega
def gP.trans {d:Nat} (e:gP A a c) (b:gP A c d):gP A a d:=by
 induction e with
 |refl=>exact b
 |up f _ g=>exact .up f (g b)
def gP.walk (g:gP A c a):c=a\/eP A a c a:=by
 induction g with
 |refl=>exact .inl rfl
 |@up c f a b i d=>
  right;have h:=i.le;rcases d with rfl|d
  ·exact b.2.1
  rcases bg f a with e|e
  ·exact(b.2.1.mono h).trans e d
  obtain rfl:f=a:=U;exact b.2.1
def Qe (m:∀g h,A g h->A h g) (n:c<a) (k:eP A a c a):gP A c a:=by
 have:∀d,∀c,c<a->a-c<=d->eP A a c a->gP A c a:=by
  intro d
  induction d with
  |zero=>intro c e l;omega
  |succ d o=>
   intro c e l i;obtain⟨f,p,b⟩:=GX e i;rcases bg f a with j|j
   ·refine .up b (o f j (by have:=b.1;omega) ?_);exact((b.2.1.symm m).mono U).trans e i
   obtain rfl:f=a:=U;exact .up b (.refl _)
 exact this (a-c) c n (a2 _) k
def Du (f:∀h i,A h i->A i h) (l:a<c):eP A a a c↔∃k,A c k/\gP A k a:=by
 constructor
 ·intro d;have j:=d.symm f;cases j with
  |one b=>exact⟨a,b,.refl _⟩
  |@step _ t _ b n r=>exact⟨t,b,Qe f n r⟩
 rintro⟨k,b,g⟩;have:∀{k a:Nat},gP A k a->a<c->(k<c->eP A k k c)->eP A a a c:=by
  intro k a d
  induction d with
  |refl=>intro m d;exact d m
  |@up u x y e w s=>
   intro q o;refine s q (λv=>?_);have p:u<c:=(by have:=e.1;omega);have b:=o p;have g:=e.fill;exact((g.symm f).mono (by have:=e.1;omega)).trans e.1 (b.mono (by have:=e.1;omega))
 exact this g l (λ_=>.one (f _ _ b))
end
end
end Go.h2
end
