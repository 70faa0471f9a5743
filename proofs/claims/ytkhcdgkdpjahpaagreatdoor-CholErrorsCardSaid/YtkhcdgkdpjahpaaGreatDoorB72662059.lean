/-
  Parts of the proof: Fw25, Fw36, Fw46, Fw47, Pl1, Fs, Dn20, TwS, Dn20b, Dn22, Dn24a, Dn24, Tw24, Ok24, Pa1, Pl2, Pl3, Pl5, Th1, Pl6, Pl7, Pl8, Pl9, Pl10, Pl12, ThT, Pa2, Pa3, Pa4, Pa5, Pa6, Pa7: the framework (Fw), pure forms (Dn), plain laws (Pl, Th), calls of functions (Ok).
-/
import Derived.ProofKit
import Derived.Handed
import Derived.KernelRfl
import Derived.Lib.SlicesCompact
import Derived.RangeFuncBox
import Derived.RangeFuncLeaves
import Derived.Shelf.Abstract
import Derived.WalkKit
import Derived.OwnWalkIn
import Derived.TacticsInMore
import Derived.LoopNIn
import Derived.LoopIn
import Derived.Maps.AppendAt
import Derived.Shelf.Slices.CompactI
import Derived.Lib.OwnBridge
import Derived.Test.YtkhcdgkdpjahpaaGreatDoorProg
import Derived.Test.YtkhcdgkdpjahpaaGreatDoorB0f3621b0

set_option linter.all false
set_option maxHeartbeats 1000000
noncomputable section
namespace Go.h1
variable{a b f:Nat}{c m:cP}{d r:Int}{e:Type}{g:Nat->Nat->Prop}{h:Nat->Prop}{i:cE}{j:Value}{k:List eX}{l:List af}{n:Prop}{o:World}{p:List ResultVar}{s:Bool}{t:bO->Nat->Prop}{u:Func}
section
def kC:Nat->(f:List eX)->eZ f->List (Nat×ag)
 |_,[],_=>[]
 |k,.v g::b,a=>(k,.val g a.1)::kC (k+1) b a.2
 |k,.m _::b,a=>(k,.ref k [])::kC (k+1) b a.2
 |k,.o _::b,a=>(k,.ref k [])::kC (k+1) b a.2
 |k,.c e h::b,a=>(k,.bZ e ((gy h a.1).map λd=>.val d.1 d.2))::kC (k+1) b a.2
 |k,.n::b,a=>(k,.bD (.slice none 0 0))::kC (k+1) b a.2
 |k,.w _::b,a=>(k,.view k [] a.1.2.1 a.1.2.2)::kC (k+1) b a.2
 |k,.s _ _::b,a=>kC (k+1) b a.2
def kD:Nat->(e:List eX)->eZ e->List (Nat×az)
 |_,[],_=>[]
 |k,.v _::b,a=>kD (k+1) b a.2
 |k,.m d::b,a=>(k,⟨d,a.1⟩)::kD (k+1) b a.2
 |k,.o d::b,a=>(k,⟨d,a.1⟩)::kD (k+1) b a.2
 |k,.c _ _::b,a=>kD (k+1) b a.2
 |k,.n::b,a=>kD (k+1) b a.2
 |k,.w f::b,a=>(k,⟨.osl f,a.1.1⟩)::kD (k+1) b a.2
 |k,.s _ _::b,a=>kD (k+1) b a.2
def hm:Nat->List eX->cO
 |_,[]=>[]
 |k,.m _::a=>k::hm (k+1) a
 |k,.v _::a=>hm (k+1) a
 |k,.o _::a=>hm (k+1) a
 |k,.c _ _::a=>hm (k+1) a
 |k,.n::a=>hm (k+1) a
 |k,.w _::a=>k::hm (k+1) a
 |k,.s _ _::a=>hm (k+1) a
def z8 {r:Type}:∀{k:Nat} {ps:List eX} {a:eZ ps} {b:gi ps r},hd k (ej ps a b)=kC k ps a/\hx k (ej ps a b)=kD k ps a/\fe k (ej ps a b)=hm k ps/\(ej ps a b).length=ps.length
 |k,[],a,b=>⟨rfl,rfl,rfl,rfl⟩
 |k,i::h,a,b=>by
  have g:=λa b=>z8 (r:=r) (k:=k+1) (ps:=h) (a:=a) (b:=b);cases i
  case m=>
   obtain⟨c,d,e,f⟩:=g a.2 b.2;simp only[ej,hd,hx,fe,kC,kD,hm,g8,c,d,e,f,and_self]
  case w=>
   obtain⟨c,d,e,f⟩:=g a.2 b.2;simp only[ej,hd,hx,fe,kC,kD,hm,g8,c,d,e,f,and_self]
  all_goals obtain⟨c,d,e,f⟩:=g a.2 b;simp only[ej,hd,hx,fe,kC,kD,hm,g8,c,d,e,f,and_self]
def zi (tt:List (TypeId×af)) (e:aB) (b:af):ResultVar->Option (b.den×cO)
 |.tmp k=>match gt e.g k with
  |.val _ l=>(fy b l).bind λa=>some (a,[])
  |.bD f=>bif mS b f then(gr b f.cells.toList).bind λa=>some (a,[]) else none
  |.ref id d=>match ak e.h id with
   |some c=>(fl c.1 c.2 d b).bind λa=>some (a,[id])
   |none=>none
  |_=>none
 |.cell j i=>match ak tt i with
  |some m=>bif aT m b then match gt e.g j with
   |.ref id d=>match ak e.h id with
    |some c=>match dn c.1 d with
     |some (.optr _)=>(fl c.1 c.2 (d++[.deref]) b).bind λa=>some (a,[id])
     |_=>none
    |none=>none
   |_=>none else none
  |none=>none
def zh (tt:List (TypeId×af)) (c:aB):List ResultVar->(a:List af)->Option (iW a×cO)
 |[],[]=>some ((),[])
 |r::f,e::a=>bif e.dS then(zi tt c e r).bind λd=>(zh tt c f a).map λb=>((d.1,b.1),d.2++b.2) else none
 |_,_=>none
theorem RQ {E:dz} {f:aB} {c:af} {b:ResultVar} {d:c.den×cO} (a:zi E.tt f c b=some d):oK E.P f ⟨c,d.1⟩ b d.2:=by
 cases b with
 |tmp b=>
  simp only[zi] at a;simp only[oK];split at a
  ·grind [hM,Option.bind_eq_some_iff]
  ·grind [Option.bind_eq_some_iff,mS.ok]
  ·grind [gb,Option.bind_eq_some_iff]
  grind
 |cell j h=>
  simp only[zi] at a;simp only[oK];split at a
  case h_2=>cases a
  rename_i g i;cases e:aT g c with
  |false=>grind
  |true=>
  rw[e] at a;refine⟨(E.ok h g i).lay e,?_⟩;simp only[cond_true] at a;grind [gb,Option.bind_eq_some_iff]
theorem HT {E:dz} {f:aB}:∀{d:List ResultVar} {c:List af} {b:iW c×cO},zh E.tt f d c=some b->qh E.P f d (gy c b.1) b.2
 |[],[],b,a=>by cases a;rfl
 |[],_::_,b,a=>by cases a
 |_::_,[],b,a=>by cases a
 |r::d,k::c,b,a=>by
  simp only[zh] at a;cases e:k.dS with
  |false=>grind
  |true=>
  rw[e] at a;simp only[cond_true] at a;obtain⟨j,h,a⟩:=bS.1 a;obtain⟨i,g,rfl⟩:=dH.1 a;exact⟨e,j.2,i.2,rfl,RQ h,HT g⟩
def mf (
 st:aB) {t:Type} (d:Option t):Nat->(r:List eX)->eZ r->Option (gi r t)
 |_,[],_=>d
 |k,.v _::b,a=>mf st d (k+1) b a.2
 |k,.o _::b,a=>mf st d (k+1) b a.2
 |k,.c _ _::b,a=>mf st d (k+1) b a.2
 |k,.n::b,a=>mf st d (k+1) b a.2
 |k,.s _ _::b,a=>mf st d (k+1) b a.2
 |k,.m l::b,a=>bif oS (.ref k []) (gt st.g k)&&(l.dS&&oy l) then match ak st.h k with
  |some j=>match fy l j.2 with
   |some e=>(mf st d (k+1) b a.2).map λi=>(e,i)
   |none=>none
  |none=>none else none
 |k,.w f::b,a=>match gt st.g k with
  |.view u [] q p=>bif Nat.beq k u&&f.dS then match ak st.h k with
   |some j=>match fy (.osl f) j.2 with
    |some e=>bif Nat.beq q a.1.2.1&&(Nat.beq p a.1.2.2&&(Nat.beq (List.length (α:=f.den) e) (List.length (α:=f.den) a.1.1)&&Nat.blt q p)) then(mf st d (k+1) b a.2).map λi=>(e,i) else none
    |none=>none
   |none=>none else none
  |_=>none
theorem pF {y:aB} {C:Type} {B:Option C}:∀{k:Nat} {ps:List eX} {a:eZ ps} {d:gi ps C},mf y B k ps a=some d->mH y k (ej ps a d)/\B=some (fK ps d)
 |k,[],a,d,b=>⟨trivial,b⟩
 |k,.v _::e,a,d,b=>pF (ps:=e) b
 |k,.o _::e,a,d,b=>pF (ps:=e) b
 |k,.c _ _::e,a,d,b=>pF (ps:=e) b
 |k,.n::e,a,d,b=>pF (ps:=e) b
 |k,.s _ _::e,a,d,b=>pF (ps:=e) b
 |k,.m E::e,a,d,b=>by
  simp only[mf] at b;cases f:(oS (.ref k []) (gt y.g k)&&(E.dS&&oy E)) with
  |false=>grind
  |true=>
  rw[f] at b;simp only[a5] at f;simp only[cond_true] at b;split at b
  case h_2=>cases b
  rename_i J t;split at b
  case h_2=>cases b
  rename_i D u;obtain⟨I,r,rfl⟩:=dH.1 b;obtain⟨j,l⟩:=pF (a:=a.2) r;refine⟨⟨⟨(oS.ok f.1).symm,?_,f.2.1,f.2.2⟩,j⟩,l⟩;rw[t];exact congrArg some (hM u)
 |k,.w z::e,a,d,b=>by
  simp only[mf] at b;split at b
  case h_2=>cases b
  rename_i H x q G;cases f:(Nat.beq k H&&z.dS) with
  |false=>grind
  |true=>
  rw[f] at b;simp only[a5] at f;obtain rfl:=dW f.1;simp only[cond_true] at b;split at b
  case h_2=>cases b
  rename_i J t;split at b
  case h_2=>cases b
  rename_i D u;cases p:(Nat.beq x a.1.2.1&&(Nat.beq q a.1.2.2&&(Nat.beq (List.length (α:=z.den) D) (List.length (α:=z.den) a.1.1)&&Nat.blt x q))) with
  |false=>grind
  |true=>
  rw[p] at b;simp only[a5] at p;obtain⟨h,i,F,A⟩:=p;have h:=dW h;have i:=dW i;have A:x<q:=eo A;obtain⟨I,r,rfl⟩:=dH.1 b;obtain⟨j,l⟩:=pF (a:=a.2) r;refine⟨⟨⟨by rw[G,h,i],?_,⟨f.2,U⟩,dW F⟩,j⟩,l⟩;rw[t];exact congrArg some (hM u)
def yo (tt:List (TypeId×af)) (a:List eX) (f:List ResultVar) (d:List af) (e:eZ a) (c:aB):Option (gi a (iW d)):=
 match zh tt c f d with
 |some b=>bif gY (hm 0 a++b.2) then mf c (some b.1) 0 a e else none
 |none=>none
theorem E3 {E:dz} {g:aB} {c:eZ k} {d:gi k (iW l)} {e:Exit} (j:e=.normal\/e=.ret) (b:yo E.tt k p l c g=some d):Dc E.P (ej k c d) p (gy l (fK k d)) e g:=by
 unfold yo at b;split at b
 case h_2=>cases b
 rename_i f n;cases i:gY (hm 0 k++f.2) with
 |false=>grind
 |true=>
 rw[i] at b;simp only[cond_true] at b;obtain⟨h,m⟩:=pF (a:=c) b;refine⟨j,f.2,?_,?_,h⟩
 ·grind [HT,Option.some.inj]
 simp_all [z8]
def E4 (tt:List (TypeId×af)) (a:List eX) (e:List ResultVar) (c:List af) (d:eZ a):Exit->aB->Option (gi a (iW c))
 |.normal,b=>yo tt a e c d b
 |.ret,b=>yo tt a e c d b
 |_,_=>none
def u7 (c:eU) (e:jP) (f:Code) (a:List eX) (g:List ResultVar) (d:List af) (b:eZ a):Option (gi a (iW d)):=
 fB c e f ⟨kC 0 a b,kD 0 a b⟩ _ (E4 c.tt a g d b)
section
variable {E:dz}
theorem aE.GH {d:List eX} {g:eZ d->Option (gi d (iW l))} (j:List (Nat×g5)) (q:List (Nat×af)) (m:cQ) (w:jP) (aS:cH) (F:∀v∈aS,Db E.P v) (D:E.P.funcs[f]?=some u) (O:u.body.isSome=true) (I:u.results=p.toArray) (R:Nat.ble d.length u.ntmps=true) (C:∀(r:cG) (s:World),(callFunc f r).run E.P s=.ok (.enter f r) s) (J:∀K∈j,aE E K.2) (A:∀e,u7 ⟨E.tt,j,q,u.ntmps,hm 0 d++kW (g3 0 d),[],m,g3 0 d,aS,[],E.glob⟩ w (u.body.getD .skip) d p l e=g e):aE E ⟨f,d,l,g⟩:=by
 refine⟨C,λe t n=>?_⟩;rw[show(g5.mk f d l g).s6 e=g e from rfl,<-A e] at n;obtain⟨ai,y,z,N⟩:=z8 (k:=0) (ps:=d) (a:=e) (b:=t);refine oA.Pa D (c:=u.body.getD .skip) (by cases Q:u.body with|none=>grind|some L=>rfl) I (by simp_all) ?_;intro M B h H o G;rw[ai,y];rw[vQ] at h o;rw[z] at h;refine jD (ic:=⟨E.tt,j,q,u.ntmps,hm 0 d++kW (g3 0 d),[],m,g3 0 d,aS,[],E.glob⟩) ⟨rfl,B.symm,h.symm,⟨J,o,F,G,rfl⟩,mD.nil H⟩ n ?_;intro x S i;cases x with
 |normal=>exact E3 (.inl rfl) i
 |ret=>exact E3 (.inr rfl) i
 |_=>cases i
def aE.of {fn:Func} {rs:List ResultVar} {h:eZ k->Option (gi k (iW l))} (c:List (Nat×g5)) (g:List (Nat×af)) (f:cQ) (e:jP) (o:E.P.funcs[a]?=some fn) (m:fn.body.isSome=true) (q:fn.results=rs.toArray) (p:Nat.ble k.length fn.ntmps=true) (n:∀(i:cG) (j:World),(callFunc a i).run E.P j=.ok (.enter a i) j) (r:∀s∈c,aE E s.2) (b:∀d,u7 ⟨E.tt,c,g,fn.ntmps,hm 0 k++kW (g3 0 k),[],f,g3 0 k,[],[],E.glob⟩ e (fn.body.getD .skip) k rs l d=h d):aE E ⟨a,k,l,h⟩:=
 aE.GH c g f e [] (λ_ b=>by cases b) o m q p n r b
def zn:Code->Code
 |.seq a _=>a
 |c=>c
def Ir:Code->Code
 |.seq _ a=>a
 |c=>c
def rf (a:Nat):Code->Option (Array Oper)
 |.region d e _=>if d=a then some e else none
 |.seq b c=>(rf a b).orElse λ_=>rf a c
 |.cond _ b c=>(rf a b).orElse λ_=>rf a c
 |.block _ b=>rf a b
 |.loop b=>rf a b
 |_=>none
def Bf {b:eU} {k:Type} {c:Array Oper} {f:cO} {d:aB->Option k}:∀(j:cO) (g:aB),iq b c (j++f) g d=iq b c j g λa=>iq b c f a d
 |[],g=>rfl
 |i::e,g=>by
  have h:(λa=>iq b c (e++f) a d)=λa=>iq b c e a λa=>iq b c f a d:=funext λa=>Bf e a;simp only[h3,iq];split
  ·rfl
  split
  ·rw[h]
  simp only[h,Bf e]
def M0 {b:Program} {tt:List (TypeId×af)} (i:∀c f,ak tt c=some f->dm b f c) {a:ql} {S:TypeId} (g:b.underlying a.T=some (.array a.xs.length S)) (h:ak tt S=some (.int a.k)):∀e∈[a],Do b e:=λe d=>by rw[eV] at d;subst d;exact⟨S,g,i _ _ h⟩
def II:∀b∈([]:List (Nat×g5)),aE E b.2:=λ_ a=>by cases a
theorem Tb {c:g5} {d:List (Nat×g5)} (f:aE E c) (g:∀b∈d,aE E b.2):∀b∈(a,c)::d,aE E b.2:=λb e=>by grind
end
def rv:Value->Value->Bool
 |.int c a,.int d b=>if c=d/\a=b then true else false
 |.bool a,.bool b=>a==b
 |.string a,.string b=>a.data.toList.isEmpty&&b.data.toList.isEmpty
 |.slice none 0 0,.slice none 0 0=>true
 |.map none,.map none=>true
 |.pointer none,.pointer none=>true
 |_,_=>false
def KB {a:ByteArray} (c:a.data.toList.isEmpty=true):a=ByteArray.empty:=by
 cases a with|mk b=>cases b with|mk d=>cases d with
  |nil=>rfl
  |cons=>cases c
theorem rv.ok {b:Value} (a:rv j b=true):j=b:=by
 unfold rv at a;split at a
 ·grind
 ·rw[beq_iff_eq.1 a]
 ·simp_all [KB,a5]
 ·rfl
 ·rfl
 ·rfl
 grind
def rx:cI->cI->Bool
 |[],[]=>true
 |a::c,b::d=>rv a b&&rx c d
 |_,_=>false
theorem rx.ok:∀{c d:cI},rx c d=true->c=d
 |[],[],_=>rfl
 |[],_::_,b=>by cases b
 |_::_,[],b=>by cases b
 |a::c,e::d,b=>by simp only[rx,a5] at b;rw[rv.ok b.1,rx.ok b.2]
def ho (b:Program) (c:TypeId) (d:Nat) (f:Value):Bool:=match b.info? c with
 |some a=>Nat.beq a.size 1&&Nat.ble a.bytes d&&(match a.zero with|some e=>rv e f|none=>false)
 |none=>false
theorem ho.ok {d:Program} {e:TypeId} {f:Nat} {g:Value} (b:ho d e f g=true):∃a,d.info? e=some a/\a.size=1/\a.bytes<=f/\a.zero=some g:=by
 unfold ho at b;split at b
 case h_2=>cases b
 rename_i a j;simp only[a5] at b;obtain⟨⟨h,i⟩,c⟩:=b;split at c
 case h_2=>cases c
 rename_i l k;exact⟨a,j,dW h,eo i,by rw[k,rv.ok c]⟩
mutual
def fo (a:Program):af->TypeId->Bool
 |.int g,b=>ho a b 24 (.int g 0)&&(match a.underlying b with|some (.int j)=>if j=g then true else false|_=>false)
 |.bool,b=>ho a b 24 (.bool false)&&(match a.underlying b with|some .bool=>true|_=>false)
 |.str,b=>ho a b 24 (.string ByteArray.empty)&&(match a.underlying b with|some .string=>true|_=>false)
 |.aV _ c,b=>ho a b 24 (.slice none 0 0)&&(match a.underlying b with|some (.slice d)=>fo a c d|_=>false)
 |.osl c,b=>ho a b 24 (.slice none 0 0)&&(match a.underlying b with|some (.slice d)=>fo a c d|_=>false)
 |.ptr _ c,b=>ho a b 24 (.pointer none)&&(match a.underlying b with|some (.pointer d)=>fo a c d|_=>false)
 |.optr c,b=>ho a b 24 (.pointer none)&&(match a.underlying b with|some (.pointer d)=>fo a c d|_=>false)
 |.mp c,b=>ho a b 24 (.map none)&&(match a.underlying b with|some (.map e d)=>(match a.underlying e with|some (.int .i64)=>fo a c d|_=>false)|_=>false)
 |.dh _ c,b=>ho a b 24 (.map none)&&(match a.underlying b with|some (.map e d)=>(match a.underlying e with|some (.int .i64)=>fo a c d|_=>false)|_=>false)
 |.st c,b=>Nat.blt 0 c.size&&match a.info? b with
  |some f=>Nat.beq f.size c.size&&Nat.ble f.bytes (24*c.size)&&(match f.zero with
   |some (.agg h)=>Nat.beq h.size c.size&&(match a.underlying b with|some (.struct i)=>pg a c i.toList 0 h.toList|_=>false)
   |_=>false)
  |none=>false
 |_,_=>false
def pg (c:Program):af->List Field->Nat->cI->Bool
 |.pr a f,d::h,e,b=>Nat.beq d.offset e&&fo c a d.type&&Nat.blt 0 a.size&&(match c.info? d.type with|some g=>(match g.zero with|some i=>rx (b.take a.size) i.cells.toList|none=>false)|none=>false)&&pg c f h (e+a.size) (b.drop a.size)
 |.nil,[],_,b=>b.isEmpty
 |_,_,_,_=>false
end
mutual
theorem fo.ok {n:Program}:∀{o:af} {i:TypeId},fo n o i=true->dm n o i
 |.int w,i,a=>by
  simp only[fo,a5] at a;obtain⟨c,b⟩:=a;obtain⟨e,aq,f,g,h⟩:=ho.ok c;split at b
  ·rename_i x d;split at b
   ·rename_i p;subst p;exact⟨e,aq,f,g,h,d⟩
   grind
  grind
 |.bool,i,a=>by
  simp only[fo,a5] at a;obtain⟨c,b⟩:=a;obtain⟨e,aq,f,g,h⟩:=ho.ok c;split at b
  ·rename_i d;exact⟨e,aq,f,g,h,d⟩
  grind
 |.str,i,a=>by
  simp only[fo,a5] at a;obtain⟨c,b⟩:=a;obtain⟨e,aq,f,g,h⟩:=ho.ok c;split at b
  ·rename_i d;exact⟨e,aq,f,g,h,d⟩
  grind
 |.aV _ k,i,a=>by
  simp only[fo,a5] at a;obtain⟨c,b⟩:=a;obtain⟨e,aq,f,g,h⟩:=ho.ok c;split at b
  ·rename_i j d;exact⟨e,j,aq,f,g,h,d,fo.ok b⟩
  grind
 |.osl k,i,a=>by
  simp only[fo,a5] at a;obtain⟨c,b⟩:=a;obtain⟨e,aq,f,g,h⟩:=ho.ok c;split at b
  ·rename_i j d;exact⟨e,j,aq,f,g,h,d,fo.ok b⟩
  grind
 |.ptr _ k,i,a=>by
  simp only[fo,a5] at a;obtain⟨c,b⟩:=a;obtain⟨e,aq,f,g,h⟩:=ho.ok c;split at b
  ·rename_i j d;exact⟨e,j,aq,f,g,h,d,fo.ok b⟩
  grind
 |.optr k,i,a=>by
  simp only[fo,a5] at a;obtain⟨c,b⟩:=a;obtain⟨e,aq,f,g,h⟩:=ho.ok c;split at b
  ·rename_i j d;exact⟨e,j,aq,f,g,h,d,fo.ok b⟩
  grind
 |.mp k,i,a=>by
  simp only[fo,a5] at a;obtain⟨c,b⟩:=a;obtain⟨e,aq,f,g,h⟩:=ho.ok c;split at b
  ·rename_i l j d;split at b
   ·rename_i m;exact⟨e,l,j,aq,f,g,h,d,m,fo.ok b⟩
   grind
  grind
 |.dh _ k,i,a=>by
  simp only[fo,a5] at a;obtain⟨c,b⟩:=a;obtain⟨e,aq,f,g,h⟩:=ho.ok c;split at b
  ·rename_i l j d;split at b
   ·rename_i m;exact⟨e,l,j,aq,f,g,h,d,m,fo.ok b⟩
   grind
  grind
 |.st k,i,a=>by
  simp only[fo,a5] at a;obtain⟨r,a⟩:=a;split at a
  case h_2=>cases a
  rename_i e t;simp only[a5] at a;obtain⟨⟨c,b⟩,a⟩:=a;split at a
  case h_2=>cases a
  rename_i v u;simp only[a5] at a;obtain⟨s,a⟩:=a;split at a
  case h_2=>cases a
  rename_i q d;exact⟨eo r,e,q,v,t,dW c,eo b,u,d,pg.ok a,dW s⟩
 |.pr _ _,_,a=>by cases a
 |.nil,_,a=>by cases a
 |.bP,_,a=>by cases a
theorem pg.ok {f:Program}:∀{g:af} {b:List Field} {d:Nat} {c:cI},pg f g b d c=true->gm f g b d c
 |.pr h i,[],d,c,a=>by cases a
 |.pr h i,r::s,d,c,a=>by
  simp only[pg,a5] at a;obtain⟨⟨⟨⟨j,k⟩,l⟩,e⟩,m⟩:=a;split at e
  case h_2=>cases e
  rename_i p n;split at e
  case h_2=>cases e
  rename_i q o;exact⟨dW j,fo.ok k,eo l,⟨p,q,n,o,rx.ok e⟩,pg.ok m⟩
 |.nil,[],d,c,a=>by have a:c=[]:=(by grind [pg]);exact a
 |.nil,_::_,d,c,a=>by cases a
 |.int _,b,d,c,a=>by cases b<;>cases a
 |.bool,b,d,c,a=>by cases b<;>cases a
 |.str,b,d,c,a=>by cases b<;>cases a
 |.aV _ _,b,d,c,a=>by cases b<;>cases a
 |.ptr _ _,b,d,c,a=>by cases b<;>cases a
 |.osl _,b,d,c,a=>by cases b<;>cases a
 |.optr _,b,d,c,a=>by cases b<;>cases a
 |.st _,b,d,c,a=>by cases b<;>cases a
 |.bP,b,d,c,a=>by cases b<;>cases a
end
theorem IV {e:Program}:∀{tt:List (TypeId×af)},(tt.all λf=>fo e f.2 f.1)=true->∀a b,ak tt a=some b->dm e b a
 |[],_,_,_,c=>by cases c
 |(k,g)::r,c,a,b,d=>by
  simp only[p6,a5] at c;rw[bG] at d;split at d
  ·grind [fo.ok]
  exact IV (by grind) a b d
end
section
def mI:(i:af)->i.den->Prop
 |.int g,h=>(Lit.int g h).wf=true
 |.aV _ b,c=>c.length<=maxLen/\∀a∈c,mI b a
 |.ptr _ b,a=>∀d,a=some d->mI b d
 |.st b,a=>mI b a
 |.pr e f,a=>mI e a.1/\mI f a.2
 |_,_=>True
def oR:af->Bool
 |.int _|.bool|.str|.nil=>true
 |.aV _ a|.ptr _ a|.st a=>oR a
 |.pr b c=>oR b&&oR c
 |_=>false
def Ae {P:Program} {c:af} {a:TypeId} (d:dm P c a):P.cellsOf a=c.size:=by obtain⟨f,e,b,_⟩:=d.info;unfold Program.cellsOf;rw[b.info];simp[b.size]
section
variable {A:Type} {enc:TypeId×Value->A} {P:Program} {w:World}
def Af {c:Addr} {d:cI} (g:w.cells? b c a=some d) (k:0<a):c.spot=none/\d.length=a/\c.block<w.heap.size/\dt w c.block c.off d:=by
 have n:=World.cells?_block g k;obtain⟨_,j,h⟩:=World.cells?_some g;have f:c.spot=none:=by
  have e:=h 0 k;have:(w.cell? (c.add 0)).isSome=true:=(by rw[e];simp[bA (U:0<d.length)]);simp only[Addr.add,if_true] at this;unfold World.cell? at this;split at this
  ·cases o:c.spot with
   |none=>rfl
   |some t=>rw[o] at this;simp at this
  cases this
 refine⟨f,j,n,λl s i=>?_⟩;have m:l<a:=(by rw[<-j];exact(ec.1 i).1);have:=h l m;rw[i] at this;rw[<-this];congr 1;unfold Addr.add;obtain⟨p,q,r⟩:=c;simp only at f;subst f;split
 ·rename_i e;subst e;rfl
 rfl
def wo (w:World):bO->Nat->Prop:=λ_ a=>a<w.heap.size
mutual
theorem zx:∀{τ:af} {l:TypeId} {k:cI} {q:Nat} {u:DataW A×List MemPlace},oR τ=true->dm P τ l->DataW.trod enc P w 0 (λ_=>true) true q l k=some u->∃c:τ.den,aG (wo w) w τ k c []/\mI τ c
 |.int p,l,k,q,u,_,⟨a,_,_,_,_,h⟩,d=>by obtain⟨C,rfl,_,bl⟩:=DataW.trod_int h d;exact⟨C,⟨rfl,rfl⟩,bl⟩
 |.bool,l,k,q,u,_,⟨a,_,_,_,_,h⟩,d=>by obtain⟨D,rfl,_⟩:=DataW.trod_bool h d;exact⟨D,⟨rfl,rfl⟩,trivial⟩
 |.str,l,k,q,u,_,⟨a,_,_,_,_,h⟩,d=>by obtain⟨cv,rfl,_,_⟩:=DataW.trod_string h d;exact⟨cv,⟨rfl,rfl⟩,trivial⟩
 |.aV ci b,l,k,q,u,g,⟨a,S,_,_,_,_,h,t⟩,d=>by
  rcases DataW.trod_slice h d with⟨rfl,_⟩|⟨e,z,T,N,d3,C,rfl,rfl,_,_,a0,d0,d1,H,_⟩
  ·exact⟨[],⟨rfl,none,0,rfl,a2 _,λ_=>rfl,.inl rfl⟩,by simp[maxLen],ab⟩
  have G:=Ae t;have R:=t.pos;have M:∀a,a<z->∃c:b.den,∃f:cI,f.length=b.size/\w.cells? 0 (e.add (a*b.size)) b.size=some f/\aG (wo w) w b f c []/\mI b c:=by
   intro a m;have i:=H a m;have v:N[a]?=some (N[a]'(by omega)):=bA _
   rw[v] at i;obtain⟨f,r,E⟩:=bS.1 i;rw[G] at r;obtain⟨c,n,s⟩:=zx (τ:=b) g t E;exact⟨c,f,n.len,r,n,s⟩
  have a3:∀p,p<=z->∃o:List b.den,o.length=p/\∀(a:Nat) (c:b.den),o[a]?=some c->∃f:cI,f.length=b.size/\w.cells? 0 (e.add (a*b.size)) b.size=some f/\aG (wo w) w b f c []/\mI b c:=by
   intro p
   induction p with
   |zero=>intro _;exact⟨[],rfl,λa c d=>by simp at d⟩
   |succ p ce=>
    intro d2;obtain⟨o,i,v⟩:=ce U;obtain⟨c,f,r⟩:=M p U;refine⟨o++[c],by simp[i],λa K j=>?_⟩;rcases bj a o.length with m|m
    ·rw[k9 m] at j;exact v a K j
    rw[lO m] at j;have an:a=p:=(by have:=(ec.1 j).1;simp at this;omega);subst an;rw[i,Nat.sub_self] at j;simp only[iF,bH] at j;subst j;exact⟨f,r⟩
  obtain⟨o,i,v⟩:=a3 z (a2 _);refine⟨o,⟨rfl,some e,T,by rw[i],by rw[i];exact a0,(λd=>by cases d),?_⟩,by rw[i];omega,λc n=>?_⟩
  ·cases z with
   |zero=>exact .inl (List.length_eq_zero_iff.1 i)
   |succ z=>
    right;obtain⟨d4,ds,_,Q,_⟩:=M 0 U;have am:e.add (0*b.size)=e:=(by simp[Addr.add]);rw[am] at Q;obtain⟨y,_,I,_⟩:=Af Q R;refine⟨e.block,e.off,by obtain⟨D,co,dl⟩:=e;simp only at y;subst y;rfl,I,λa c n=>?_⟩;obtain⟨f,W,X,Y,_⟩:=v a c n;obtain⟨_,_,_,B⟩:=Af X R;refine⟨f,W,?_,Y⟩;have ai:(e.add (a*b.size)).block=e.block:=(by unfold Addr.add;split<;>rfl);have Z:(e.add (a*b.size)).off=e.off+a*b.size:=by
     unfold Addr.add;split
     ·rename_i ad;rw[ad];rfl
     rfl
    rw[ai,Z] at B;exact B
  obtain⟨a,m,rfl⟩:=g9.1 n;obtain⟨_,_,_,_,s⟩:=v a _ (bA m);exact s
 |.ptr ci b,l,k,q,u,g,⟨a,S,_,_,_,_,h,t⟩,d=>by
  rcases DataW.trod_pointer h d with⟨rfl,_⟩|⟨e,V,c,C,rfl,rfl,_,r,E⟩
  ·exact⟨none,⟨rfl,rfl⟩,λc d=>by cases d⟩
  rw[Ae t] at r;obtain⟨K,j,s⟩:=zx (τ:=b) g t E;obtain⟨y,_,I,B⟩:=Af r t.pos;refine⟨some K,⟨rfl,e.block,e.off,V,by obtain⟨D,co,dl⟩:=e;simp only at y;subst y;rfl,I,j.len,B,j⟩,λc d=>by cases d;exact s⟩
 |.st b,l,k,q,u,g,⟨_,a,L,d5,m,a4,_,_,h,x,_⟩,d=>by
  obtain⟨o,C,rfl,_,av,bs,H⟩:=DataW.trod_struct h d;have G:P.cellsOf l=b.size:=(by unfold Program.cellsOf;rw[m];simp[a4]);obtain⟨c,n,s⟩:=IT (τ:=b) (fs:=L.toList) (cs:=k) g x (by rw[h8,<-G];exact av) (λJ O x=>by
   have x:L[J]?=some O:=(by simpa using x);have:=H J O x;have ap:J<o.length:=(by rw[bs];exact(lK.1 x).1);rw[bA ap] at this;exact⟨_,_,this⟩)
  rw[mF] at n;exact⟨c,n,s⟩
 |.osl _,_,_,_,_,g,_,_=>by cases g
 |.optr _,_,_,_,_,g,_,_=>by cases g
 |.pr _ _,_,_,_,_,_,F,_=>F.elim
 |.nil,_,_,_,_,_,F,_=>F.elim
 |.bP,_,_,_,_,g,_,_=>by cases g
theorem IT:∀{τ:af} {fs:List Field} {c:Nat} {g cs:cI},oR τ=true->gm P τ fs c g->cs.length=c+τ.size->(∀(f:Nat) b,fs[f]?=some b->∃(k:Nat) (l:DataW A×List MemPlace),DataW.trod enc P w 0 (λ_=>true) true k b.type ((cs.drop b.offset).take (P.cellsOf b.type))=some l)->∃m:τ.den,aG (wo w) w τ (cs.drop c) m []/\mI τ m
 |.pr z B,b::D,c,g,cs,d,q,e,j=>by simp only[oR,a5] at d;obtain⟨o,h,C,_,p⟩:=q;obtain⟨k,l,i⟩:=j 0 b rfl;rw[o,Ae h] at i;obtain⟨x,s,t⟩:=zx d.1 h i;obtain⟨y,u,v⟩:=IT (cs:=cs) d.2 p (by rw[e];simp only[af.size];omega) (λf n r=>j (f+1) n r);exact⟨(x,y),⟨[],[],rfl,s,by rw[oD];exact u⟩,t,v⟩
 |.nil,[],c,g,cs,_,_,e,_=>by refine⟨(),⟨rfl,?_⟩,trivial⟩;rw[List.drop_eq_nil_iff];simp only[af.size] at e;omega
 |.pr _ _,[],_,_,_,_,a,_,_=>a.elim
 |.nil,_::_,_,_,_,_,a,_,_=>a.elim
 |.int _,fs,_,_,_,_,a,_,_=>by cases fs<;>exact a.elim
 |.bool,fs,_,_,_,_,a,_,_=>by cases fs<;>exact a.elim
 |.str,fs,_,_,_,_,a,_,_=>by cases fs<;>exact a.elim
 |.aV _ _,fs,_,_,_,_,a,_,_=>by cases fs<;>exact a.elim
 |.ptr _ _,fs,_,_,_,_,a,_,_=>by cases fs<;>exact a.elim
 |.osl _,fs,_,_,_,_,a,_,_=>by cases fs<;>exact a.elim
 |.optr _,fs,_,_,_,_,a,_,_=>by cases fs<;>exact a.elim
 |.st _,fs,_,_,_,_,a,_,_=>by cases fs<;>exact a.elim
 |.bP,fs,_,_,_,_,a,_,_=>by cases fs<;>exact a.elim
end
theorem Q0 {f:af} {g:TypeId} (l:oR f=true) (d:dm P f g) (c:Value.okWide P w .any a g j):j=bp f j.cells.toList:=by
 cases f with
 |int r=>
  obtain⟨e,_,_,_,_,b⟩:=d;obtain⟨h,rfl⟩:=Go.WideShapes.okWide_int b c;rfl
 |bool=>
  obtain⟨e,_,_,_,_,b⟩:=d;obtain⟨h,rfl⟩:=Go.WideShapes.okWide_bool b c;rfl
 |str=>
  obtain⟨e,_,_,_,_,b⟩:=d;obtain⟨h,rfl⟩:=Go.WideShapes.okWide_string b c;rfl
 |aV m i=>
  obtain⟨e,k,_,_,_,_,b,_⟩:=d;obtain⟨n,s,o,rfl⟩:=Go.WideShapes.okWide_slice b c;rfl
 |ptr m i=>
  obtain⟨e,k,_,_,_,_,b,_⟩:=d;simp only[Value.okWide,b,Cell.okWide] at c;cases j<;>first|rfl|simp_all [Cell.ok]
 |st i=>
  obtain⟨_,e,q,t,_,_,_,_,b,_,_⟩:=d;simp only[Value.okWide,b] at c;obtain⟨p,rfl,_⟩:=c;rfl
 |_=>first|(cases l;done)|exact d.elim
def rV (P:Program):List eX->cH->Bool
 |[],[]=>true
 |.v a::c,b::d=>oR a&&fo P a b&&rV P c d
 |_,_=>false
def mJ:(d:List eX)->eZ d->Prop
 |[],_=>True
 |.v e::b,a=>mI e a.1/\mJ b a.2
 |.m _::b,a=>mJ b a.2
 |.o _::b,a=>mJ b a.2
 |.c _ _::b,a=>mJ b a.2
 |.n::b,a=>mJ b a.2
 |.w _::b,a=>mJ b a.2
 |.s _ _::b,a=>mJ b a.2
def D2 {P:Program}:∀{ps:List eX} {b:cH} {k:Nat},rV P ps b=true->g3 k ps=none
 |[],_,_,_=>rfl
 |.v g::d,e::f,k,a=>by simp only[rV,a5] at a;exact D2 (ps:=d) (k:=k+1) a.2
 |.v _::_,[],_,a=>by cases a
 |.m _::_,b,_,a=>by cases b<;>cases a
 |.o _::_,b,_,a=>by cases b<;>cases a
 |.c _ _::_,b,_,a=>by cases b<;>cases a
 |.n::_,b,_,a=>by cases b<;>cases a
 |.w _::_,b,_,a=>by cases b<;>cases a
 |.s _ _::_,b,_,a=>by cases b<;>cases a
def vI {b:Type}:List b->cD
 |[]=>[]
 |_::a=>[]::vI a
def zg {b:Type}:∀a:List b,(vI a).flatten=[]
 |[]=>rfl
 |_::a=>by simp only[vI,iE,zg a,hb]
def D4:∀{f:List eX} {l:cH} {base:Nat} {b:cI} {i:List (DataW A)} {r:List MemPlace},rV P f l=true->DataW.TrodAll enc P w 0 (λ_=>true) true l b i r->(∀(j:Nat) k g,l[j]?=some k->b[j]?=some g->Value.okWide P w .any base k g)->∃h:eZ f,mJ f h/\∀{x:Type} (d:gi f x),jy (tj (λd=>d<w.heap.size) (λ_=>False) w) (ej f h d) b (vI b)
 |[],[],base,b,i,r,_,q,_=>by cases b<;>cases i<;>first|exact⟨(),trivial,λ_=>trivial⟩|exact q.elim
 |.v U::Q,y::x,base,b,i,r,e,q,u=>by
  simp only[rV,a5] at e;obtain⟨⟨s,z⟩,B⟩:=e;obtain⟨g,T,M,N,R,S,rfl,rfl,rfl,p,C⟩:=Go.ChangeShapes.trodAll_cons q;obtain⟨O,p⟩:=p;have t:=fo.ok z;obtain⟨L,I,F⟩:=zx s t p;obtain⟨h,D,E⟩:=D4 B C (λj k K G H=>u (j+1) k K (by simpa using G) (by simpa using H));refine⟨(L,h),⟨F,D⟩,λd=>⟨⟨rfl,g.cells.toList,Q0 s t (u 0 y g rfl rfl),?_⟩,E d⟩⟩;exact I.mono (λJ d e=>⟨by cases J with
   |bn=>exact e
   |dO=>exact .inl e,bB.refl _ _⟩) ab
 |[],_::_,_,_,_,_,a,_,_=>by cases a
 |.v _::_,[],_,_,_,_,a,_,_=>by cases a
 |.m _::_,_,_,_,_,_,a,_,_=>by cases a
 |.o _::_,_,_,_,_,_,a,_,_=>by cases a
 |.c _ _::_,_,_,_,_,_,a,_,_=>by cases a
 |.n::_,_,_,_,_,_,a,_,_=>by cases a
 |.w _::_,_,_,_,_,_,a,_,_=>by cases a
def IS {P:Program} (k:laidOutB P=true) {i j:World} {o:Nat->Bool}:∀{f:cH} {e:cI} {d:List (DataW A)} {c:List MemPlace},(∀h∈f,P.readableRec h=true/\h<P.types.size)->DataW.TrodAll enc P i 0 (λ_=>true) true f e d c->(∀a∈c,i.sameAt j a)->(∀a∈c,o a.block=true)->DataW.TrodAll enc P j 0 o true f e d c
 |[],e,d,c,_,g,_,_=>by cases e<;>cases d<;>first|exact g|exact g.elim
 |T::f,e,d,c,l,g,m,n=>by obtain⟨y,z,w,x,s,t,rfl,rfl,rfl,p,q⟩:=Go.ChangeShapes.trodAll_cons g;obtain⟨u,v⟩:=l T ab;exact⟨s,t,Go.WideElems.Trod_stays k u v p (λa b=>m a (by simp[b])) (λa b=>n a (by simp[b])),IS k (λh r=>l h (by simp[r])) q (λa b=>m a (by simp[b])) (λa b=>n a (by simp[b])),rfl⟩
def NR {E:dz} {F:g5} {l:ChangeSpec} {T:TypeId} (a4:aE E F) (d2:laidOutB E.P=true) (d7:(u.params.toList.all λd=>E.P.readableRec d&&Nat.blt d E.P.types.size)=true) (X:rV E.P F.ps u.params.toList=true) (_hrs:F.rs=[.bool]) (O:u.resultTypes=#[T]) (x:E.P.underlying T=some .bool) (Z:l.vars=[]) (fs:∀c:List (DataW A),c.length=u.params.toList.length->l.fn A c=⟨[.lit (.bool true)],c,[]⟩) (ex:∀v,mJ F.ps v->∃b,F.s6 v=some b/\gy F.rs (fK F.ps b)=[⟨.bool,true⟩]) {a0 co ap:Bool} {p:cG} {c D:List (DataW A)} {h:List MemPlace} (ft:∀(r:Nat) d n,u.params[r]?=some d->p[r]?=some n->Value.okWide E.P o .any a d n) (Q:DataW.Whole enc E.P u.params.toList l.vars s o p.toList c D h) (bl:iA E (λb=>b<o.heap.size) o):Calls E.P F.f p o λN e=>∃n,N=.returned n/\l.post enc E.P u s a0 co ap o p n e:=by
 have R:=Q;obtain⟨z,f0,G,H,W,cv,d3⟩:=Q;rw[Z] at H;have dl:D=[]/\f0=[]:=by cases D with
  |nil=>exact⟨rfl,H⟩
  |cons=>exact H.elim
 obtain⟨rfl,rfl⟩:=dl;rw[p7] at W;subst W;obtain⟨v,d6,ci⟩:=D4 (w:=o) (base:=a) X G (λr d n L M=>ft r d n (by simpa using L) (by simpa using M));obtain⟨b,ce,d9⟩:=ex v d6;have d1:∀{t:cH} {C:cI} {c:List (DataW A)} {z:List MemPlace},DataW.TrodAll enc E.P o 0 (λ_=>true) true t C c z->c.length=t.length:=by
  intro t
  induction t with
  |nil=>intro C c z i;cases C<;>cases c<;>first|rfl|exact i.elim
  |cons T t fz=>
   intro C c z i;obtain⟨n,gf,f3,f4,gc,ge,rfl,rfl,rfl,f9,a3⟩:=Go.ChangeShapes.trodAll_cons i;simp[fz a3]
 have I:l.fn A (c++[])=⟨[.lit (.bool true)],c,[]⟩:=(by rw[p7];exact fs c (d1 G));have K:=R.lt;have U:=a4.2 v b ce o (λb=>b<o.heap.size) (λ_=>False) p.toList (vI p.toList) (λb i=>i.elim id (λi=>i.elim)) (ci b) (by rw[zg];exact List.nodup_nil) (by rw[zg];simp) (by rw[vQ,D2 X];trivial);rw[Array.toArray_toList] at U;refine(U bl).mono ?_;rintro N e ⟨f1,f7,y,B,rfl,j⟩;refine⟨_,rfl,?_⟩;have em:m8 B=.bool true:=by
  have:=j.res;rw[d9] at this;cases B with
  |nil=>cases y<;>exact this.elim
  |cons n B=>
   cases y with
   |nil=>exact this.elim
   |cons f8 y=>
    obtain⟨⟨f2,M,_,rfl⟩,el⟩:=this;cases B with
    |nil=>exact M
    |cons=>cases y<;>exact el.elim
 have J:∀b,b<o.heap.size->e.heap[b]?=o.heap[b]?:=λb x=>j.heap b x (by rw[zg];simp);have eq:∀g∈h,o.sameAt e g:=λg q=>by
  have:=J g.block (K g q);cases g with
  |cell b k=>show e.cell? _=o.cell? _;unfold World.cell?;rw[show e.heap[b]?=o.heap[b]? from this]
  |map b=>exact this
 have cs:∀b k,MemPlace.cell b k∈h->e.frozen? ⟨b,k,none⟩=o.frozen? ⟨b,k,none⟩:=λb k q=>(by unfold World.frozen?;rw[show e.heap[b]?=o.heap[b]? from J b (K _ q)]);rw[em];have d8:∀d∈u.params.toList,E.P.readableRec d=true/\d<E.P.types.size:=λd L=>(by have:=ew.1 d7 d L;simp only[a5] at this;exact⟨this.1,eo this.2⟩);have S:∀m:Nat->Bool,(∀g∈h,m g.block=true)->DataW.TrodAll enc E.P e 0 m true u.params.toList p.toList (l.fn A (c++[])).args h:=λm fp=>(by rw[I];exact IS d2 d8 G eq fp);have Y:∀(b:Nat) (m:Nat->Bool) (V:Bool),DataW.TrodAll enc E.P e b m V u.resultTypes.toList ((Value.bool true).resultList u.resultTypes.size) (l.fn A (c++[])).results []:=λb m V=>(by rw[I,O];exact Go.ChangeShapes.trodAll_mk1 ⟨1,by unfold DataW.trod;rw[x];rfl⟩);have ad:∀m:Nat->Bool,DataW.TrodVars enc E.P e m l.vars (l.fn A (c++[])).vars []:=λm=>(by rw[I,Z];rfl);have d4:∀(r:Nat) (d:TypeId) (an:Value),u.resultTypes[r]?=some d->((Value.bool true).resultList u.resultTypes.size)[r]?=some an->Value.okWide E.P e .any 0 d an:=
  Go.RowKit.ok_one O rfl (Go.RowKit.okWide_bool_mk x true)
 have d5:∀g∈h,(λb=>decide (b<o.heap.size)) g.block=true:=λg q=>(by simpa using K g q);have d0:o.keptBut e (λ_=>False):=by
  refine⟨j.os,j.output,λam ds=>?_⟩;rw[J am ds];cases o.heap[am]? with
  |none=>rfl
  |some fT=>cases fT with
   |cells av d f6=>exact⟨rfl,rfl,rfl,λ_ _=>rfl⟩
   |map f5 av=>exact .inr ⟨rfl,rfl⟩
   |_=>rfl
 refine⟨c,[],h,[],h,[],R,Y _ _ _,S _ d5,ad _,World.keptBut_mono (λ_ i=>i.elim) d0,λ_=>?_⟩;refine⟨d4,_,_,([]++h)++[],⟨[]++h,[],Go.ChangeShapes.trodAll_append (S _ (λ_ _=>rfl)) (Y _ _ _),ad _,rfl,?_,?_⟩,?_⟩
 ·intro b k j;have j:MemPlace.cell b k∈h:=(by simpa using j);rw[cs b k j];exact cv b k j
 ·intro bs;simpa using d3 bs
 intro g q _;simpa using q
end
end
section
inductive zH where
 |a
 |b (f:cO)
 |c (f m:cO)
def AF (a:Nat):Nat:=a/32+a %32*500000
abbrev RB (a:Nat):Nat×lU:=(a,.s (.ref a []))
abbrev C1 (a:Nat):Nat×lU:=(a,.v (.int .i64))
inductive lI where
 |l
 |o (a:lI)
 |t (j:zL) (a b:lI)
 |n (b:lI)
 |p (vU:kx) (m:zM) (a:lI)
 |k (l:cO) (a:lI)
 |z (F:cO) (a:lI)
 |d (L:List zH)
def zm (b:Array Oper) (a:Nat) (f c:cO):i5:=match b[a]? with
 |some d=>⟨a,dl d,d.looksAt b,m5 b a,f,c⟩
 |none=>⟨a,[],[],[],f,c⟩
def ye (d:Array Oper):Nat->List zH->List i5
 |_,[]=>[]
 |i,.a::e=>zm d i [] []::ye d (i+1) e
 |i,.b f::e=>zm d i (f.map AF) []::ye d (i+1) e
 |i,.c f g::e=>zm d i (f.map AF) (g.map AF)::ye d (i+1) e
def pf:Code->jP
 |.seq a b=>.two .none (pf a) (pf b)
 |.cond _ a b=>.two .none (pf a) (pf b)
 |.block _ a=>.one (pf a)
 |.region _ c true=>.draw ((List.range c.size).map λd=>zm c d [] [])
 |_=>.leaf
def lI.ex:lI->Code->jP
 |.l,a=>pf a
 |.o b,.block _ a=>.one (b.ex a)
 |.t J b c,.seq a e=>.two J (b.ex a) (c.ex e)
 |.t J b c,.cond _ a e=>.two J (b.ex a) (c.ex e)
 |.n c,.seq a e=>.two .none (pf a) (c.ex e)
 |.n c,.cond _ a e=>.two .none (pf a) (c.ex e)
 |.p j h b,.loop a=>.loop j h (b.ex a)
 |.k f b,a=>.keep f (b.ex a)
 |.z g b,a=>.nY g (b.ex a)
 |.d f,.region _ i _=>.draw (ye i 0 f)
 |_,_=>.leaf
def tK (E:dz):Type:={a:List (Nat×g5)//∀b∈a,aE E b.2}
def aM {E:dz}:tK E:=⟨[],II⟩
def ar {E:dz} {a:g5} (c:aE E a) (b:tK E):tK E:=⟨(a.f,a)::b.1,Tb c b.2⟩
section
variable {E:dz} {f:Nat} {fn:Func} {ps:List eX} {C:List af} {D:eZ ps->Option (gi ps (iW C))}
def aE.q (d:tK E) (l:lI) (k:E.P.funcs[f]?=some fn) (j:∀(h:cG) (i:World),(callFunc f h).run E.P i=.ok (.enter f h) i) (g:List (Nat×af):=[]) (e:cQ:=[]) (a:(fn.body.isSome&&Nat.ble ps.length fn.ntmps)=true:=by kernel_rfl) (c:∀b,u7 ⟨E.tt,d.1,g,fn.ntmps,hm 0 ps++kW (g3 0 ps),[],e,g3 0 ps,[],[],E.glob⟩ (l.ex (fn.body.getD .skip)) (fn.body.getD .skip) ps fn.results.toList C b=D b:=by intro b;kernel_rfl):aE E ⟨f,ps,C,D⟩:=
 have a:=a5 _ _▸a
 aE.GH d.1 g e _ [] (λ_ c=>by cases c) k a.1 Array.toArray_toList.symm a.2 j d.2 c
end
end
def iu (a:Nat):Nat×Nat:=bif Nat.blt (a %32) 28 then(a %32,a/32) else bif Nat.beq (a %32) 31 then(a/32 %16777216,a/536870912) else((a %32-28)*256+a/32 %256+28,a/8192)
def kQ {c:Type} (b:Nat->c×Nat):Nat->Nat->List c×Nat
 |0,a=>([],a)
 |k+1,a=>match a %2 with
  |0=>([],a/2)
  |_=>match b (a/2) with
   |(x,t)=>match kQ b k t with
    |(l,u)=>(x::l,u)
def Cw (a:List af) (b:Nat):af×Nat:=match iu b with
 |(i,t)=>(a.getD i .nil,t)
def kR {a b:Type} (c:Nat->a×Nat) (d:Nat->b×Nat) (e:Nat):(a×b)×Nat:=match c e with
 |(x,t)=>match d t with
  |(y,u)=>((x,y),u)
def RK (b:List af) (a:Nat):(Nat×lU)×Nat:=match a %4 with
 |0=>match iu (a/4) with
  |(k,t)=>(RB k,t)
 |1=>match iu (a/4) with
  |(k,t)=>(C1 k,t)
 |2=>match kR iu (Cw b) (a/4) with
  |((k,x),t)=>((k,.v x),t)
 |_=>match kR iu iu (a/4) with
  |((k,x),t)=>((k,.s (.ref x [])),t)
def vH (a:List af) (b:Nat):kx×Nat:=match kR (kQ (RK a) 99) (kQ (kR iu (Cw a)) 99) b with
 |((x,y),t)=>(⟨x,y⟩,t)
def RJ (b:List af) (a:Nat):zL×Nat:=match a %3 with
 |0=>(.none,a/3)
 |1=>match kR (kQ iu 99) (vH b) (a/3) with
  |((x,y),t)=>(.x x y,t)
 |_=>match kR (kQ iu 99) (vH b) (a/3) with
  |((x,y),t)=>(.rr x y,t)
def RL (b:List af) (a:Nat):zM×Nat:=match a %3 with
 |0=>(.r,a/3)
 |1=>match kR iu (vH b) (a/3) with
  |((x,y),t)=>(.x x y,t)
 |_=>match kR iu (vH b) (a/3) with
  |((x,y),t)=>(.rr x y,t)
def Cu (a:Nat):Nat×Nat:=match a %2 with
 |0=>match iu (a/2) with
  |(k,t)=>(k*32,t)
 |_=>match iu (a/64) with
  |(k,t)=>(k*32+a/2 %32,t)
def RI (d:Nat):zH×Nat:=match d %3 with
 |0=>(.a,d/3)
 |1=>match kQ Cu 99 (d/3) with
  |(x,t)=>(.b x,t)
 |_=>match kR (kQ Cu 99) (kQ Cu 99) (d/3) with
  |((x,y),t)=>(.c x y,t)
def pK (e:List af):Nat->Nat->lI×Nat
 |0,c=>(.l,c)
 |k+1,c=>match c %8 with
  |0=>(.l,c/8)
  |1=>match pK e k (c/8) with
   |(a,t)=>(.o a,t)
  |2=>match RJ e (c/8) with
   |(f,t)=>match pK e k t with
    |(a,t)=>match pK e k t with
     |(b,t)=>(.t f a b,t)
  |3=>match pK e k (c/8) with
   |(a,t)=>(.n a,t)
  |4=>match kR (vH e) (RL e) (c/8) with
   |((x,y),t)=>match pK e k t with
    |(a,t)=>(.p x y a,t)
  |5=>match kQ iu 99 (c/8) with
   |(x,t)=>match pK e k t with
    |(a,t)=>(.k x a,t)
  |6=>match kQ iu 99 (c/8) with
   |(x,t)=>match pK e k t with
    |(a,t)=>(.z x a,t)
  |_=>match kQ RI 999 (c/8) with
   |(x,t)=>(.d x,t)
def Cv (b:List af) (c:Nat):lI×List (Nat×af)×cQ:=match pK b 999 c with
 |(a,t)=>match kR (kQ (kR iu (Cw b)) 99) (kQ (kR iu iu) 99) t with
  |((x,y),_)=>(a,x,y)
def KV {b:Program} (h:b.funcs[a]?=some u) (i:(u.name=="runtime.NumGoroutine")=false) (g:u.body.isSome=true) (c:cG) (d:World):(callFunc a c).run b d=.ok (.enter a c) d:=by have e:u.name≠"runtime.NumGoroutine":=(by simpa using i);obtain⟨j,f⟩:=zP.1 g;simp[callFunc,h,e,f,Sem.run]
section
def ac {α:Type} (c:Option α) (b:α->Prop):Prop:=∃a,c=some a/\b a
section
variable {α A σ ρ τ:Type}
def ac.aj {b:α} {c:α->Prop}:ac (some b) c↔c b:=⟨λ⟨_,a,d⟩=>by cases a;exact d,λa=>⟨b,rfl,a⟩⟩
def ac.oa {a:α->Prop}:ac none a↔False:=⟨(λ⟨_,b,_⟩=>by cases b),False.elim⟩
def ac.ff {a:Option α} {c:α->Option A} {b:A->Prop}:ac (a.bind c) b↔ac a (λd=>ac (c d) b):=by
 cases a with
 |none=>simp only[Option.bind_none,ac.oa]
 |some d=>simp only[aQ,ac.aj]
def ac.F9 {a:Option α} {c:α->A} {b:A->Prop}:ac (a.map c) b↔ac a (λd=>b (c d)):=by
 cases a with
 |none=>simp only[Option.map_none,ac.oa]
 |some d=>simp only[hl,ac.aj]
def ac.eM {b c:Option α} {a:α->Prop}:ac (bif s then b else c) a↔(s=true->ac b a)/\(s=false->ac c a):=by cases s<;>simp
def ac.mono {c:Option α} {P b:α->Prop} (d:ac c P) (g:∀a,P a->b a):ac c b:=let⟨a,e,f⟩:=d;⟨a,e,g a f⟩
def ac.eq_iff {c:Option α} {b:α}:ac c (· =b)↔c=some b:=⟨λ⟨e,a,d⟩=>by rw[a,d],λa=>⟨b,a,rfl⟩⟩
def ac.MZ {b:List α} {e:α->Prop}:ac (aL b d) e↔∃(f:d.toNat<b.length),0<=d/\e b[d.toNat]:=by
 unfold aL;by_cases a:0<=d
 ·rw[al a];by_cases c:d.toNat<b.length
  ·rw[bA c,ac.aj];simp[c,a]
  rw[hD U,ac.oa];simp[c]
 rw[ah a,ac.oa];simp[a]
def ac.kK {b:List α} {c:α->Prop}:ac (aL b (a:Int)) c↔∃(d:a<b.length),c b[a]:=by rw[ac.MZ];simp
def ac.sy:ac (bL a d) h↔(0<=d/\d.toNat<a)/\h d.toNat:=by
 unfold bL;by_cases b:0<=d/\d.toNat<a
 ·rw[al b,ac.aj];simp[b]
 rw[ah b,ac.oa];simp[b]
def ac.FW {c:Unit->Prop}:ac (dd a) c↔a<=fh/\c ():=by
 unfold dd;by_cases b:a<=fh
 ·rw[al b,ac.aj];simp[b]
 rw[ah b,ac.oa];simp[b]
def ac.BI:ac (e6 d r) h↔(0<=d/\d<=r/\r<=(fh:Int))/\h d.toNat:=by
 unfold e6;by_cases a:0<=d/\d<=r/\r<=(fh:Int)
 ·rw[al a,ac.aj];simp[a]
 rw[ah a,ac.oa];simp[a]
def bC (d:List α) (c:Nat) (b:α->Option A):Option A:=match d[c]? with
 |some a=>b a
 |none=>none
def ac.rW {c:List α} {e:α->Option A} {d:A->Prop}:ac (bC c a e) d↔∃(b:a<c.length),ac (e c[a]) d:=by
 unfold bC;by_cases b:a<c.length
 ·rw[bA b];simp[b]
 rw[hD U];simp[b,ac.oa]
def ac.loop {j:σ->Option (σ⊕ρ)} {i:ρ->Prop} (g:σ->Prop) (h:σ->Nat) {a:σ} (n:g a) (m:∀a,g a->ac (j a) (λ|.inl f=>g f/\h f<h a|.inr b=>i b)):ac (loop j a) i:=by
 have s:∀e a,h a<=e->g a->∃b,he j (e+1) a=some b/\i b:=by
  intro e
  induction e with
  |zero=>
   intro a q k;obtain⟨l,d,c⟩:=m a k;cases l with
   |inl f=>have:=c.2;omega
   |inr b=>exact⟨b,by simp only[he,d],c⟩
  |succ e r=>
   intro a q k;obtain⟨l,d,c⟩:=m a k;cases l with
   |inl f=>
    obtain⟨b,o,p⟩:=r f (by have:=c.2;omega) c.1;exact⟨b,by rw[he,d];exact o,p⟩
   |inr b=>exact⟨b,by simp only[he,d],c⟩
 obtain⟨b,d,c⟩:=s (h a) a (a2 _) n;exact⟨b,vg.2 ⟨_,d⟩,c⟩
def ac.for {j:Int×τ->Option ((Int×τ)⊕ρ)} {i:ρ->Prop} (b:Nat) (e:Nat->τ->Prop) {i0:Nat} {p:τ} (t:d=(i0:Int)) (q:e i0 p) (n:i0<=b) (v:∀a c,i0<=a->a<b->e a c->ac (j ((a:Int),c)) (λ|.inl k=>k.1=((a+1:Nat):Int)/\e (a+1) k.2|.inr g=>i g)) (s:∀c,e b c->ac (j ((b:Int),c)) (λ|.inl _=>False|.inr g=>i g)):ac (h1.loop j (d,p)) i:=by
 subst t;refine ac.loop (λh=>∃a:Nat,i0<=a/\a<=b/\h.1=(a:Int)/\e a h.2) (λh=>b-h.1.toNat) ⟨i0,a2 _,n,rfl,q⟩ ?_;rintro⟨w,c⟩ ⟨a,u,n,rfl,o⟩;rcases bj a b with m|m
 ·refine(v a c u m o).mono ?_;rintro(⟨x,y⟩|g) f
  ·obtain⟨l,r⟩:=f;simp only at l;subst l;exact⟨⟨a+1,U,U,rfl,r⟩,by show b-Int.toNat _<b-Int.toNat _;simp;omega⟩
  exact f
 obtain rfl:a=b:=U;refine(s c o).mono ?_;rintro(k|g) f
 ·exact f.elim
 exact f
end
def TM (a:Int):IntKind.i64.wrap a=if(9223372036854775808:Int)<=a %18446744073709551616 then a %18446744073709551616-18446744073709551616 else a %18446744073709551616:=by
 unfold IntKind.wrap;by_cases b:(9223372036854775808:Int)<=a %18446744073709551616
 ·rw[al b];exact al (show(true&&decide (a %18446744073709551616>=(9223372036854775808:Int)))=true by simp[b])
 rw[ah b];exact ah (show¬(true&&decide (a %18446744073709551616>=(9223372036854775808:Int)))=true by simp[b])
def wrap64 {x:Int} (a:-9223372036854775808<=x) (b:x<=9223372036854775807):IntKind.i64.wrap x=x:=by rw[TM];split<;>omega
def jN (b:a<9223372036854775807):IntKind.i64.wrap ((a:Int)+1)=((a+1:Nat):Int):=by rw[wrap64 U U];simp
end
section
abbrev au {α:Type} (a:List α):Int:=((a.length:Nat):Int)
abbrev ax (a:Int):Int:=IntKind.i64.wrap a
abbrev aA (a:Int):Int:=IntKind.u64.wrap a
abbrev bK (a:Int):Int:=IntKind.u32.wrap a
abbrev aZ (a:Int):Int:=IntKind.i64.wrap (a+1)
def rd {α A:Type} (a:List α) (c:Int) (e:α->Option A):Option A:=(bL a.length c).bind λd=>(bC a d λb=>some b).bind e
def wr {α A:Type} (a:List α) (c:Int) (e:α) (d:List α->Option A):Option A:=(bL a.length c).bind λb=>(bC a b λ_=>some (a.set b e)).bind d
section
variable {α A:Type}
def kS {b:List α} (d:a<b.length) (c:α->Option A):rd b (a:Int) c=c b[a]:=by unfold rd bL;rw[al ⟨U,by simpa using d⟩];show(bC b (a:Int).toNat _).bind c=_;unfold bC;rw[du,bA d];rfl
def k4 {b:List α} (d:a<b.length) (e:α) (c:List α->Option A):wr b (a:Int) e c=c (b.set a e):=by unfold wr bL;rw[al ⟨U,by simpa using d⟩];show(bC b (a:Int).toNat _).bind c=_;unfold bC;rw[du,bA d];rfl
end
end
def xk:cj->cM:=λ(e,h,_)=>(loop (σ:=cu) (ρ:=cm) (λ(f,c,_)=>bif decide (c<((e.length:Nat):Int)) then(Option.bind (α:=cx⊕b8) ((aL e c).bind λd=>Option.bind (α:=Unit⊕(cx⊕b8)) (cond (decide (d<=f)==false) (cond (decide (d>=h)) (some (.inr (.inr (.inr (.inr (false,())))))) (some (.inl ()))) (some (.inr (.inr (.inr (.inr (false,()))))))) λa=>match a with
 |.inl _=>(some (.inl (d,())))
 |.inr b=>some b) λa=>match a with
 |.inl (g,_)=>(some (.inl (g,IntKind.i64.wrap (c+(1:Int)),())))
 |.inr b=>some b) else some (.inr (.inl ()))) ((-1:Int),(0:Int),())).bind λa=>match a with
 |.inl _=>(some (true,()))
 |.inr b=>some b
def oZ:cx->cM:=λ(a,_)=>some ((a !=a),())
def qw:cu->cM:=λ(a,b,_)=>(oZ (a,())).bind λ(c,_)=>(cond (c==true) ((oZ (b,())).bind λ(aP,_)=>cond ((!aP)==false) (some (decide (a<b),())) (some (true,()))) (some (decide (a<b),())))
def xN:cx->cM:=λ(a,_)=>some ((a !=a),())
def xH:cj->Option cq:=λ(b,e,_)=>(loop (σ:=cu) (ρ:=cx) (λ(c,d,_)=>cond (decide (c<d)) ((db IntKind.u64 (IntKind.u64.wrap (IntKind.i64.wrap (c+d))) (1:Int)).bind λf=>(aL b (IntKind.i64.wrap f)).bind λk=>(qw (k,e,())).bind λ(i,_)=>cond i (some (.inl (IntKind.i64.wrap (IntKind.i64.wrap f+(1:Int)),d,()))) (some (.inl (c,IntKind.i64.wrap f,())))) (some (.inr (c,())))) ((0:Int),((b.length:Nat):Int),())).bind λ(a,_)=>(cond (decide (a<((b.length:Nat):Int))==true) ((aL b a).bind λl=>cond ((l==e)==false) ((aL b a).bind λj=>(xN (j,())).bind λ(g,_)=>cond (g==true) ((xN (e,())).bind λ(h,_)=>some (a,h,())) (some (a,false,()))) (some (a,true,()))) (some (a,false,())))
def r8:(cg×Int×Int×Unit)->cM:=λ(a,c,d,_)=>(aL a.1 c).bind λe=>(xH (e,d,())).bind λ(_,b,_)=>some (b,())
def uf:cc->cN:=λ(a,_)=>(bif decide ((((a.1).length:Nat):Int)>(200:Int)) then some ((6:Int),()) else((loop (σ:=cx) (ρ:=cn) (λ(d,_)=>bif decide (d<(((a.1).length:Nat):Int)) then(Option.bind (α:=Unit⊕cb) ((aL a.1 d).bind λj=>(xk (j,(((a.1).length:Nat):Int),())).bind λ(aP,_)=>cond ((!aP)==false) ((r8 (a,d,d,())).bind λ(i,_)=>cond i (some (.inr (.inr (.inr ((1:Int),()))))) (some (.inl ()))) (some (.inr (.inr (.inr ((1:Int),())))))) λb=>match b with
 |.inl _=>(some (.inl (IntKind.i64.wrap (d+(1:Int)),())))
 |.inr c=>some c) else some (.inr (.inl ()))) ((0:Int),())).bind λb=>match b with
 |.inl _=>((loop (σ:=cx) (ρ:=cn) (λ(e,_)=>bif decide (e<(((a.1).length:Nat):Int)) then((aL a.1 e).bind λg=>(loop (σ:=cx) (ρ:=(Unit⊕cb)) (λ(f,_)=>cond (decide (f<((g.length:Nat):Int))) ((aL g f).bind λk=>(r8 (a,k,e,())).bind λ(h,_)=>cond (!h) (some (.inr (.inr (.inr (.inr ((1:Int),())))))) (some (.inl (IntKind.i64.wrap (f+(1:Int)),())))) (some (.inr (.inl ())))) ((0:Int),())).bind λb=>match b with
 |.inl _=>(some (.inl (IntKind.i64.wrap (e+(1:Int)),())))
 |.inr c=>some c) else some (.inr (.inl ()))) ((0:Int),())).bind λb=>match b with
 |.inl _=>(some ((0:Int),()))
 |.inr c=>some c)
 |.inr c=>some c))
def xc:cx->Option b9:=λ(b,_)=>(e6 b b).bind λh=>(e6 b b).bind λi=>(loop (σ:=b6) (ρ:=b9) (λ(d,a,_)=>cond (decide (d<b)) ((bL (a.1).length d).bind λf=>((bC a.1 f λ_=>some ((a.1).set f (-1:Int))).map λm=>(m,a.2)).bind λc=>(bL (c.2.1).length d).bind λe=>(((bC c.2.1 e λ_=>some ((c.2.1).set e (-1:Int))).map λj=>(j,c.2.2)).map λk=>(c.1,k)).bind λl=>some (.inl (IntKind.i64.wrap (d+(1:Int)),l,()))) (some (.inr (a,())))) ((0:Int),(List.replicate h (0:Int),(List.replicate i (0:Int),())),())).bind λ(g,_)=>some (g,())
def xb:(cd×Int×Int×Unit)->Option b9:=λ(j,m,e,_)=>(loop (σ:=b6) (ρ:=b9) (λ(b,d,_)=>Option.bind (α:=b9⊕(b6⊕b9)) (cond ((b !=(-1:Int))==true) (cond (decide (b<e)) (some (.inl (d,()))) (some (.inr (.inr (d,()))))) (some (.inr (.inr (d,()))))) λo=>match o with
 |.inl (a,_)=>((bL (a.2.1).length b).bind λn=>(bC a.2.1 n λi=>some i).bind λh=>(bL (a.2.1).length b).bind λf=>(((bC a.2.1 f λ_=>some ((a.2.1).set f e)).map λq=>(q,a.2.2)).map λr=>(a.1,r)).bind λc=>Option.bind (α:=b9) (cond (h==(-1:Int)) ((bL (c.1).length b).bind λg=>((bC c.1 g λ_=>some ((c.1).set g e)).map λs=>(s,c.2)).bind λt=>some (t,())) (some (c,()))) λ(k,_)=>some (.inl (h,k,())))
 |.inr p=>some p) (m,j,())).bind λ(l,_)=>some (l,())
def xa:cc->Option cj:=λ(a,_)=>(uf (a,())).bind λ(f,_)=>(cond (f !=(0:Int)) (some ([],f,())) ((xc ((((a.1).length:Nat):Int),())).bind λ(k,_)=>(loop (σ:=b6) (ρ:=b9) (λ(b,d,_)=>cond (decide (b<(((a.1).length:Nat):Int))) ((aL a.1 b).bind λg=>(loop (σ:=b6) (ρ:=b9) (λ(c,e,_)=>cond (decide (c<((g.length:Nat):Int))) ((aL g c).bind λl=>(xb (e,l,b,())).bind λ(j,_)=>some (.inl (IntKind.i64.wrap (c+(1:Int)),j,()))) (some (.inr (e,())))) ((0:Int),d,())).bind λ(h,_)=>some (.inl (IntKind.i64.wrap (b+(1:Int)),h,()))) (some (.inr (d,())))) ((0:Int),k,())).bind λ(i,_)=>some (i.1,(0:Int),())))
def x7:(cg×cP×Int×Unit)->Option cr:=λ(q,x,b,_)=>(e6 (IntKind.i64.wrap (b+(1:Int))) (IntKind.i64.wrap (b+(1:Int)))).bind λh=>(bL (List.replicate h false).length b).bind λj=>(bC (List.replicate h false) j λ_=>some ((List.replicate h false).set j true)).bind λE=>(aL q.1 b).bind λn=>(loop (σ:=ch) (ρ:=cp) (λ(i,l,_)=>bif decide (i<((n.length:Nat):Int)) then(aL n i).bind λA=>(loop (σ:=ch) (ρ:=cp) (λ(c,a,_)=>Option.bind (α:=cp⊕b4) (cond (decide (c>=(0:Int))==true) (cond (decide (c<b)==true) ((bL a.length c).bind λr=>(bC a r λo=>some o).bind λB=>cond (!B) (some (.inl (a,()))) (some (.inr (.inr (a,()))))) (some (.inr (.inr (a,()))))) (some (.inr (.inr (a,()))))) λy=>match y with
 |.inl (g,_)=>((bL g.length c).bind λk=>(bC g k λ_=>some (g.set k true)).bind λF=>(aL x c).bind λC=>some (.inl (C,F,())))
 |.inr z=>some z) (A,l,())).bind λ(t,_)=>some (.inl (IntKind.i64.wrap (i+(1:Int)),t,())) else some (.inr (l,()))) ((0:Int),E,())).bind λ(m,_)=>(loop (σ:=(Int×cL×cP×Unit)) (ρ:=cr) (λ(d,e,f,_)=>cond (decide (d<((m.length:Nat):Int))) (Option.bind (α:=(cL×cP×Unit)) ((bL e.length d).bind λs=>(bC e s λp=>some p).bind λD=>cond D ((dd (f.length+([d]).length)).bind λ_=>some (e,(f++[d]),())) (some (e,f,()))) λ(u,v,_)=>some (.inl (IntKind.i64.wrap (d+(1:Int)),u,v,()))) (some (.inr (f,())))) ((0:Int),m,[],())).bind λ(w,_)=>some (w,())
def x6:cc->Option (cE×Int×Unit):=λ(g,_)=>(xa (g,())).bind λ(d,j,_)=>(bif j !=(0:Int) then some ([],j,()) else(e6 ((d.length:Nat):Int) ((d.length:Nat):Int)).bind λq=>(loop (σ:=(Int×cE×Unit)) (ρ:=cg) (λ(b,i,_)=>bif decide (b<((d.length:Nat):Int)) then(x7 (g,d,b,())).bind λ(k,_)=>(loop (σ:=(Int×cE×cP×Unit)) (ρ:=cg) (λ(e,a,f,_)=>bif decide (e<((k.length:Nat):Int)) then(bL f.length e).bind λp=>(bC f p λm=>some m).bind λl=>(bL a.length l).bind λh=>(bC a h λn=>some n).bind λt=>(dd (t.length+([b]).length)).bind λ_=>(bL a.length l).bind λc=>bif Nat.beq h c&&true then(bC a c λo=>some o).bind λu=>(bC a c λ_=>some (a.set c (u++[b]))).bind λv=>
 some (.inl (IntKind.i64.wrap (e+(1:Int)),v,f,())) else none else some (.inr (a,()))) ((0:Int),i,k,())).bind λ(r,_)=>some (.inl (IntKind.i64.wrap (b+(1:Int)),r,())) else some (.inr (i,()))) ((0:Int),List.replicate q [],())).bind λ(s,_)=>some (s,(0:Int),()))
def xQ:(cP×cP×Unit)->cM:=λ(b,c,_)=>(bif ((b.length:Nat):Int)!=((c.length:Nat):Int) then some (false,()) else((loop (σ:=cx) (ρ:=cm) (λ(a,_)=>cond (decide (a<((b.length:Nat):Int))) ((aL b a).bind λf=>(aL c a).bind λg=>cond (f !=g) (some (.inr (.inr (false,())))) (some (.inl (IntKind.i64.wrap (a+(1:Int)),())))) (some (.inr (.inl ())))) ((0:Int),())).bind λd=>match d with
 |.inl _=>(some (true,()))
 |.inr e=>some e))
section
open Go
def v2 (c:cP->cA) (a:cP):Option Bool:=bif Nat.ble a.length 1000000 then(c a).bind λb=>bif Nat.ble b.length 1000000 then some (decide ((Lib.compact b).length<a.length)) else none else none
end
def xn:ca->cM:=λ(b,a,_)=>(cond (decide (a>=(0:Int))==true) (some (decide (a<(((b.1).length:Nat):Int)),())) (some (false,())))
def se:cx->cN:=λ(a,_)=>Option.bind (α:=cu) (cond (decide (a>=(65536:Int))) ((db IntKind.u32 a (16:Int)).bind λg=>some (g,(16:Int),())) (some (a,(0:Int),()))) λ(b,c,_)=>Option.bind (α:=cu) (cond (decide (b>=(256:Int))) ((db IntKind.u32 b (8:Int)).bind λh=>some (h,IntKind.i64.wrap (c+(8:Int)),())) (some (b,c,()))) λ(f,e,_)=>(ni yH (IntKind.u8.wrap f)).bind λd=>some (IntKind.i64.wrap (e+IntKind.i64.wrap d),())
def ED:cx->cN:=λ(a,_)=>Option.bind (α:=cu) (cond (decide (a>=(4294967296:Int))) ((db IntKind.u64 a (32:Int)).bind λi=>some (i,(32:Int),())) (some (a,(0:Int),()))) λ(b,d,_)=>Option.bind (α:=cu) (cond (decide (b>=(65536:Int))) ((db IntKind.u64 b (16:Int)).bind λj=>some (j,IntKind.i64.wrap (d+(16:Int)),())) (some (b,d,()))) λ(c,e,_)=>Option.bind (α:=cu) (cond (decide (c>=(256:Int))) ((db IntKind.u64 c (8:Int)).bind λk=>some (k,IntKind.i64.wrap (e+(8:Int)),())) (some (c,e,()))) λ(h,g,_)=>(ni yH (IntKind.u8.wrap h)).bind λf=>some (IntKind.i64.wrap (g+IntKind.i64.wrap f),())
def At:cx->cN:=λ(b,_)=>(ED (b,())).bind λ(a,_)=>some (a,())
def xM:(cP×Int×Int×Unit)->Option cr:=λ(k,f,j,_)=>(loop (σ:=ck) (ρ:=cr) (λ(d,g,_)=>bif decide (d<j) then(loop (σ:=ck) (ρ:=cr) (λ(a,c,_)=>Option.bind (α:=cr⊕(ck⊕cr)) (cond (decide (a>f)==true) ((bL c.length a).bind λu=>(bC c u λq=>some q).bind λy=>(bL c.length (IntKind.i64.wrap (a-(1:Int)))).bind λr=>(bC c r λn=>some n).bind λz=>(qw (y,z,())).bind λ(x,_)=>cond x (some (.inl (c,()))) (some (.inr (.inr (c,()))))) (some (.inr (.inr (c,()))))) λv=>match v with
 |.inl (b,_)=>((bL b.length (IntKind.i64.wrap (a-(1:Int)))).bind λs=>(bC b s λo=>some o).bind λA=>(bL b.length a).bind λt=>(bC b t λp=>some p).bind λB=>(bL b.length a).bind λh=>(bC b h λ_=>some (b.set h A)).bind λe=>(bL e.length (IntKind.i64.wrap (a-(1:Int)))).bind λi=>(bC e i λ_=>some (e.set i B)).bind λC=>some (.inl (IntKind.i64.wrap (a-(1:Int)),C,())))
 |.inr w=>some w) (d,g,())).bind λ(l,_)=>some (.inl (IntKind.i64.wrap (d+(1:Int)),l,())) else some (.inr (g,()))) (IntKind.i64.wrap (f+(1:Int)),k,())).bind λ(m,_)=>some (m,())
def xO:(cP×Int×Int×Int×Unit)->Option cr:=λ(e,c,d,g,_)=>(loop (σ:=(Int×Int×Int×Bool×Bool×cP×Unit)) (ρ:=cr) (λ(a,b,_,_,_,f,_)=>cond (decide (IntKind.i64.wrap (b-a)<=(12:Int))) ((xM (f,a,b,())).bind λ(h,_)=>some (.inr (h,()))) none) (c,d,g,true,true,e,())).bind some
def uw:cr->Option cr:=λ(a,_)=>(At (IntKind.u64.wrap ((a.length:Nat):Int),())).bind λ(c,_)=>(xO (a,(0:Int),((a.length:Nat):Int),c,())).bind λ(b,_)=>some (b,())
def xm:cP×Unit->cM:=λa=>(v2 (λc=>(uw (c,())).map λd=>d.1) a.1).map λb=>(b,())
def Ar:(Int×Option cg×Unit)->cM:=λ(b,a,_)=>a.bind λc=>(xn (c,b,())).bind λ(aP,_)=>some ((!aP),())
def Ax:b1->cN:=λ(b,c,_)=>(loop (σ:=cx) (ρ:=cn) (λ(a,_)=>cond (decide (a<((b.length:Nat):Int))) ((aL b a).bind λg=>(Ar (g,c.1,())).bind λ(f,_)=>cond f (some (.inr (.inr (a,())))) (some (.inl (IntKind.i64.wrap (a+(1:Int)),())))) (some (.inr (.inl ())))) ((0:Int),())).bind λd=>match d with
 |.inl _=>(some ((-1:Int),()))
 |.inr e=>some e
def xK:b1->cM:=λ(c,a,_)=>(Ax (c,(a.1,()),())).bind λ(b,_)=>some (decide (b>=(0:Int)),())
def xi:b5->cN:=λ(a,b,_)=>(uf (a,())).bind λ(c,_)=>(cond (c !=(0:Int)) (some (c,())) (cond (((b.length:Nat):Int)!=(((a.1).length:Nat):Int)) (some ((2:Int),())) ((xK (b,(some a,()),())).bind λ(aP,_)=>cond (aP==false) ((xm (b,())).bind λ(d,_)=>cond d (some ((90:Int),())) (some ((0:Int),()))) (some ((90:Int),())))))
def uh:cx->Option cf:=λ(a,_)=>(e6 a a).bind λe=>(loop (σ:=(Int×cC×Unit)) (ρ:=cf) (λ(c,b,_)=>cond (decide (c<((((List.replicate e []):cC).length:Nat):Int))) ((e6 a a).bind λf=>(bL b.length c).bind λd=>(bC b d λ_=>some (b.set d (List.replicate f false))).bind λh=>some (.inl (IntKind.i64.wrap (c+(1:Int)),h,()))) (some (.inr (b,())))) ((0:Int),List.replicate e [],())).bind λ(g,_)=>some (g,())
def uk:(cC×Int×Int×Unit)->Option cf:=λ(a,d,e,_)=>(cond (d !=e) ((bL a.length d).bind λb=>(bL a.length e).bind λc=>((bC a b λm=>some m).bind λn=>bL n.length e).bind λi=>(bC a b λg=>(bC g i λ_=>some (g.set i true)).map λo=>a.set b o).bind λf=>((bC f c λk=>some k).bind λl=>bL l.length d).bind λj=>(bC f c λh=>(bC h j λ_=>some (h.set j true)).map λp=>f.set c p).bind λq=>some (q,())) (some (a,())))
def xj:(cC×Int×Unit)->Option cr:=λ(f,g,_)=>(aL f g).bind λc=>(loop (σ:=ck) (ρ:=cr) (λ(a,b,_)=>cond (decide (a<((c.length:Nat):Int))) (Option.bind (α:=cr) ((aL c a).bind λh=>cond h ((dd (b.length+([a]).length)).bind λ_=>some ((b++[a]),())) (some (b,()))) λ(d,_)=>some (.inl (IntKind.i64.wrap (a+(1:Int)),d,()))) (some (.inr (b,())))) ((0:Int),[],())).bind λ(e,_)=>some (e,())
def uj:cf->Option cc:=λ(b,_)=>(e6 ((b.length:Nat):Int) ((b.length:Nat):Int)).bind λg=>(loop (σ:=(Int×cg×cg×Unit)) (ρ:=(cg×cg×Unit)) (λ(c,e,a,_)=>cond (decide (c<((b.length:Nat):Int))) ((xj (b,c,())).bind λ(h,_)=>(bL (a.1).length c).bind λd=>((bC a.1 d λ_=>some ((a.1).set d h)).map λi=>(i,a.2)).bind λj=>some (.inl (IntKind.i64.wrap (c+(1:Int)),e,j,()))) (some (.inr (e,a,())))) ((0:Int),([],()),(List.replicate g [],()),())).bind λ(_,f,_)=>some (f,())
def xl:b5->Option cc:=λ(k,a,_)=>(uh (((a.length:Nat):Int),())).bind λ(o,_)=>(loop (σ:=b2) (ρ:=b3) (λ(b,i,j,_)=>bif decide (b<((a.length:Nat):Int)) then(aL a b).bind λv=>((some (0)).bind λg=>(fD b).bind λh=>(gg g h a.length).map λ_=>(g,h)).bind λc=>(loop (σ:=b2) (ρ:=b3) (λ(d,e,f,_)=>bif decide (d<((((a.take c.2).drop c.1).length:Nat):Int)) then Option.bind (α:=b3) ((aL ((a.take c.2).drop c.1) d).bind λu=>(r8 (k,v,u,())).bind λ(m,_)=>cond m ((uk (f,b,d,())).bind λ(l,_)=>some (e,l,())) (some (e,f,()))) λ(p,q,_)=>
 some (.inl (IntKind.i64.wrap (d+(1:Int)),p,q,())) else some (.inr (e,f,()))) ((0:Int),i,j,())).bind λ(r,s,_)=>some (.inl (IntKind.i64.wrap (b+(1:Int)),r,s,())) else some (.inr (i,j,()))) ((0:Int),([],()),o,())).bind λ(_,t,_)=>(uj (t,())).bind λ(n,_)=>some (n,())
def ui:b5->Option ca:=λ(a,b,_)=>(xi (a,b,())).bind λ(c,_)=>(cond (c !=(0:Int)) (some (([],()),c,())) ((xl (a,b,())).bind λ(aP,_)=>some (aP,(0:Int),())))
def r4:cu->cN:=λ(a,b,_)=>(oZ (a,())).bind λ(c,_)=>(oZ (b,())).bind λ(aP,_)=>(cond c (cond aP (some ((0:Int),())) (some ((-1:Int),()))) (cond aP (some ((1:Int),())) (cond (decide (a<b)) (some ((-1:Int),())) (cond (decide (a>b)) (some ((1:Int),())) (some ((0:Int),()))))))
def wZ:cr->cN:=λ(b,_)=>(loop (σ:=cx) (ρ:=cn) (λ(a,_)=>cond (decide (a<((b.length:Nat):Int))) ((aL b a).bind λc=>cond (c !=(0:Int)) (some (.inr (.inr (c,())))) (some (.inl (IntKind.i64.wrap (a+(1:Int)),())))) (some (.inr (.inl ())))) ((0:Int),())).bind λd=>match d with
 |.inl _=>(some ((0:Int),()))
 |.inr e=>some e
abbrev a7:Type:=cP
abbrev ei:Type:=(a7×Unit)
abbrev bX:Type:=(Bool×ei)
abbrev ba:Type:=cx
abbrev bz:Type:=(Bool×(bX×ba))
abbrev Dy:Type:=(a7×(a7×ei))
abbrev kB:Type:=(List bz)
abbrev j5:Type:=(List (Int×(Int×ba)))
abbrev jx:Type:=(List a7×(List a7×(List (Option (List (Int×bz)×Nat))×(List a7×Unit))))
abbrev bF:Type:=(Int×(Int×Dy))
abbrev eg:Type:=cw
abbrev lf:Type:=(Int×((List a7×Unit)×(List (Option (List (Int×bz)×Nat))×Unit)))
abbrev gI:Type:=(a7×Dy)
abbrev es:Type:=(bz×Unit)
abbrev eh:Type:=(bX×Unit)
abbrev kA:Type:=(bz×bz×Unit)
abbrev fX:Type:=(Int×a7×Unit)
abbrev ju:Type:=cL
abbrev wB:Type:=(gI×Int×Int×Unit)
abbrev hL:Type:=(Unit⊕eg)
abbrev jb:Type:=(j5×Unit)
abbrev qm:Type:=(Int×j5×Unit)
abbrev jv:Type:=(a7×a7×Unit)
abbrev jw:Type:=(bX×bX×Unit)
abbrev j4:Type:=(Unit⊕ba)
abbrev lX:Type:=(a7×Int×Unit)
abbrev lg:Type:=cu
abbrev Dz:Type:=(Int×Int×j5×Unit)
abbrev oN:Type:=(Bool×(bX×(Int×eg)))
abbrev mM:Type:=(Int×Int×a7×Unit)
abbrev lY:Type:=(bX×Int×Unit)
abbrev mN:Type:=(bF×Unit)
def ln:ei->Option ei:=λ(c,_)=>(loop (σ:=ba) (ρ:=ba) (λ(a,_)=>Option.bind (α:=Unit⊕(ba⊕ba)) (cond (decide (a>0)==true) ((aL c (ax (a-1))).bind λj=>cond (j==0) (some (.inl ())) (some (.inr (.inr (a,()))))) (some (.inr (.inr (a,()))))) λh=>match h with
 |.inl _=>(some (.inl (ax (a-1),())))
 |.inr i=>some i) (au c,())).bind λ(f,_)=>(loop (σ:=fX) (ρ:=ei) (λ(b,d,_)=>cond (decide (b<f)) ((aL c b).bind λe=>(dd (d.length+([e]).length)).bind λ_=>some (.inl (aZ b,(d++[e]),()))) (some (.inr (d,())))) (0,[],())).bind λ(g,_)=>some (g,())
def j7:(Bool×a7×Unit)->Option eh:=λ(c,b,_)=>(ln (b,())).bind λ(a,_)=>(cond (c==true) (some ((decide (au a>0),(a,())),())) (some ((false,(a,())),())))
def sj:ba->Option eh:=λ(a,_)=>Option.bind (α:=(Int×bX×Unit)) (cond (decide (a<0)) (some (aA (aA (ax (0-aZ a))+1),(false,([],())),())) (some (aA a,(false,([],())),()))) λ(b,_,_)=>(db IntKind.u64 b 32).bind λd=>(j7 (decide (a<0),[bK b,bK d],())).bind λ(c,_)=>some (c,())
def o6:eh->Option eh:=λ(a,_)=>(j7 (a.1,a.2.1,())).bind λ(b,_)=>some (b,())
def nO:Unit->Option es:=λ_=>some ((true,((false,([],())),((0:Int),()))),())
def sf:ba->Option ba:=λ(a,_)=>(cond (a==0) (some (32,())) ((db IntKind.u32 (bK (bT IntKind.u32 a (bK (0-a))*125613361)) 27).bind λb=>(aL mP b).bind λc=>some (ax c,())))
def nN:eh->Option ba:=λ(c,_)=>(ln (c.2.1,())).bind λ(b,_)=>(loop (σ:=ba) (ρ:=j4) (λ(a,_)=>cond (decide (a<au b)) ((aL b a).bind λg=>cond (g !=0) ((aL b a).bind λh=>(sf (h,())).bind λ(f,_)=>some (.inr (.inr (ax (ax (32*a)+f),())))) (some (.inl (aZ a,())))) (some (.inr (.inl ())))) (0,())).bind λd=>match d with
 |.inl _=>(some (0,()))
 |.inr e=>some e
def si:eh->Option eh:=λ(a,_)=>(j7 (false,a.2.1,())).bind λ(b,_)=>some (b,())
def xY:lX->Option ei:=λ(f,g,_)=>(g1 IntKind.i64 g 32).bind λi=>(e6 i i).bind λj=>(loop (σ:=mM) (ρ:=fX) (λ(a,b,c,_)=>cond (decide (b<au f)) ((aL f b).bind λl=>(gj g 32).bind λm=>(fL IntKind.u64 (aA l) m).bind λd=>(dd (c.length+([bK (dP IntKind.u64 a d)]).length)).bind λ_=>(db IntKind.u64 (dP IntKind.u64 a d) 32).bind λk=>some (.inl (k,aZ b,(c++[bK (dP IntKind.u64 a d)]),()))) (some (.inr (a,c,())))) (0,0,List.replicate j (0:Int),())).bind λ(e,h,_)=>(dd (h.length+([bK e]).length)).bind λ_=>some ((h++[bK e]),())
def uH:lX->Option (a7×Bool×Unit):=λ(b,d,_)=>(loop (σ:=ct) (ρ:=eg) (λ(e,c,_)=>Option.bind (α:=Unit⊕(ct⊕eg)) ((g1 IntKind.i64 d 32).bind λw=>cond (decide (c<w)==true) (cond (decide (c<au b)) (some (.inl ())) (some (.inr (.inr (e,()))))) (some (.inr (.inr (e,()))))) λt=>match t with
 |.inl _=>(Option.bind (α:=eg) (cond (e==false) ((aL b c).bind λx=>some ((x !=0),())) (some (true,()))) λ(m,_)=>some (.inl (m,aZ c,())))
 |.inr u=>some u) (false,0,())).bind λ(n,_)=>(gj d 32).bind λj=>(g1 IntKind.i64 d 32).bind λy=>(loop (σ:=(Bool×Int×a7×Unit)) (ρ:=(Bool×a7×Unit)) (λ(f,a,g,_)=>bif decide (a<au b) then Option.bind (α:=(Bool×a7×Unit)) ((aL b a).bind λk=>Option.bind (α:=fX) (cond (decide (aZ a<au b)) ((aL b (aZ a)).bind λz=>(fL IntKind.u64 (aA z) 32).bind λA=>some (dP IntKind.u64 (aA k) A,g,())) (some (aA k,g,()))) λ(v,h,_)=>Option.bind (α:=(Bool×a7×Unit)) ((g1 IntKind.i64 d 32).bind λB=>cond ((a==B)==true) ((aL b a).bind λC=>(fL IntKind.u32 1 j).bind λD=>cond (bT IntKind.u32 C (bK (D-1))!=0) (some (true,h,())) (some (f,h,()))) (some (f,h,()))) λ(o,i,_)=>(db IntKind.u64 v j).bind λl=>(dd (i.length+([bK l]).length)).bind λ_=>some (o,(i++[bK l]),())) λ(p,r,_)=>some (.inl (p,aZ a,r,())) else
 some (.inr (f,g,()))) (n,y,[],())).bind λ(q,s,_)=>some (s,q,())
def uF:eh->Option eh:=λ(a,_)=>(j7 ((!a.1),a.2.1,())).bind λ(b,_)=>some (b,())
def xV:jv->Option ei:=λ(b,c,_)=>(loop (σ:=mM) (ρ:=fX) (λ(e,a,f,_)=>cond (decide (a<(if(au c)>au b then au c else au b))) (Option.bind (α:=fX) (Option.bind (α:=fX) (cond (decide (a<au b)) ((aL b a).bind λo=>some (aA (e+aA o),f,())) (some (e,f,()))) λ(h,k,_)=>Option.bind (α:=fX) (cond (decide (a<au c)) ((aL c a).bind λp=>some (aA (h+aA p),k,())) (some (h,k,()))) λ(d,i,_)=>(dd (i.length+([bK d]).length)).bind λ_=>(db IntKind.u64 d 32).bind λn=>some (n,(i++[bK d]),())) λ(l,m,_)=>some (.inl (l,aZ a,m,()))) (some (.inr (e,f,())))) (0,0,[],())).bind λ(g,j,_)=>(dd (j.length+([bK g]).length)).bind λ_=>some ((j++[bK g]),())
def xW:jv->Option ba:=λ(b,c,_)=>(bif au b !=au c then cond (decide (au b<au c)) (some ((-1:Int),())) (some (1,())) else((loop (σ:=ba) (ρ:=j4) (λ(a,_)=>cond (decide (a>=0)) ((aL b a).bind λf=>(aL c a).bind λg=>cond (f !=g) ((aL b a).bind λh=>(aL c a).bind λi=>cond (decide (h<i)) (some (.inr (.inr ((-1:Int),())))) (some (.inr (.inr (1,()))))) (some (.inl (ax (a-1),())))) (some (.inr (.inl ())))) (ax (au b-1),())).bind λd=>match d with
 |.inl _=>(some (0,()))
 |.inr e=>some e))
def uI:jv->Option ei:=λ(d,e,_)=>(loop (σ:=mM) (ρ:=ei) (λ(f,a,b,_)=>cond (decide (a<au d)) (Option.bind (α:=fX) ((aL d a).bind λh=>Option.bind (α:=fX) (cond (decide (a<au e)) ((aL e a).bind λm=>some (aA (aA (aA h-f)-aA m),b,())) (some (aA (aA h-f),b,()))) λ(c,g,_)=>(dd (g.length+([bK c]).length)).bind λ_=>(db IntKind.u64 c 63).bind λl=>some (l,(g++[bK c]),())) λ(i,j,_)=>some (.inl (i,aZ a,j,()))) (some (.inr (b,())))) (0,0,[],())).bind λ(k,_)=>some (k,())
def o5:jw->Option eh:=λ(a,c,_)=>(ln (a.2.1,())).bind λ(b,_)=>(ln (c.2.1,())).bind λ(aP,_)=>(cond (a.1==c.1) ((xV (b,aP,())).bind λ(f,_)=>(j7 (a.1,f,())).bind λ(g,_)=>some (g,())) ((xW (b,aP,())).bind λ(h,_)=>cond (decide (h>=0)) ((uI (b,aP,())).bind λ(i,_)=>(j7 (a.1,i,())).bind λ(j,_)=>some (j,())) ((uI (aP,b,())).bind λ(d,_)=>(j7 (c.1,d,())).bind λ(e,_)=>some (e,()))))
def uG:jw->Option eh:=λ(a,b,_)=>(uF (b,())).bind λ(c,_)=>(o5 (a,c,())).bind λ(aP,_)=>some (aP,())
def kG:lY->Option eh:=λ(f,b,_)=>(o6 (f,())).bind λ(a,_)=>(cond (decide (b>=0)) ((xY (a.2.1,b,())).bind λ(aP,_)=>(j7 (a.1,aP,())).bind λ(j,_)=>some (j,())) ((uH (a.2.1,ax (0-b),())).bind λ(k,l,_)=>(j7 (a.1,k,())).bind λ(d,_)=>Option.bind (α:=jw) (Option.bind (α:=(Bool×bX×bX×Unit)) (cond (a.1==true) (some (l,(false,([],())),d,())) (some (false,(false,([],())),d,()))) λ(m,e,c,_)=>cond m ((sj (1,())).bind λ(h,_)=>(uG (c,h,())).bind λ(i,_)=>some (e,i,())) (some (e,c,()))) λ(_,g,_)=>some (g,())))
def sm:lY->Option eh:=λ(d,f,_)=>(loop (σ:=(Int×bX×bX×Unit)) (ρ:=(Int×bX×bX×Unit)) (λ(a,b,c,_)=>cond (decide (a>1048576)) ((kG (b,(-1048576:Int),())).bind λ(i,_)=>some (.inl (ax (a-1048576),i,c,()))) (some (.inr (a,b,c,())))) (f,d,(false,([],())),())).bind λ(g,e,_,_)=>(kG (e,ax (0-g),())).bind λ(h,_)=>some (h,())
def uD:eh->Option ba:=λ(b,_)=>(ln (b.2.1,())).bind λ(a,_)=>(cond (au a==0) (some (0,())) ((aL a (ax (au a-1))).bind λc=>(se (c,())).bind λ(aP,_)=>some (ax (ax (32*ax (au a-1))+aP),())))
def kH:lY->Option es:=λ(e,a,_)=>(o6 (e,())).bind λ(c,_)=>(bif au c.2.1==0 then some ((false,((false,([],())),((0:Int),()))),()) else bif decide (a>65536) then(nO ()).bind λ(aP,_)=>some (aP,()) else((nN (c,())).bind λ(b,_)=>(si (c,())).bind λ(k,_)=>(sm (k,b,())).bind λ(d,_)=>Option.bind (α:=(bz×bX×Unit)⊕es) (Option.bind (α:=(Bool×bz×bX×Unit)) (cond (decide (ax (a+b)<(-65536:Int))==false) ((uD (d,())).bind λ(l,_)=>some (decide (ax (ax (a+b)+l)>65536),(false,((false,([],())),((0:Int),()))),d,())) (some (true,(false,((false,([],())),((0:Int),()))),d,()))) λ(n,m,f,_)=>cond n ((nO ()).bind λ(j,_)=>some (.inr (j,()))) (some (.inl (m,f,())))) λh=>match h with
 |.inl (_,g,_)=>(some ((false,((e.1,g.2),(ax (a+b),()))),()))
 |.inr i=>some i))
def uK:ba->Option es:=λ(a,_)=>(sj (a,())).bind λ(b,_)=>(kH (b,0,())).bind λ(c,_)=>some (c,())
def j8:es->Option es:=λ(a,_)=>(cond a.1 ((nO ()).bind λ(b,_)=>some (b,())) ((kH (a.2.1,a.2.2.1,())).bind λ(c,_)=>some (c,())))
def lm:eh->Option ba:=λ(b,_)=>(o6 (b,())).bind λ(a,_)=>(cond (au a.2.1==0) (some (0,())) (cond a.1 (some ((-1:Int),())) (some (1,()))))
def nQ:ct->Option ba:=λ(b,a,_)=>(cond b (some (dP IntKind.u64 a 9223372036854775808,())) (some (a,())))
def uO:ct->Option ba:=λ(a,b,_)=>Option.bind (α:=Unit⊕ba) (Option.bind (α:=eg) (cond ((b==3)==false) (cond ((b==1)==true) (cond ((!a)==false) (cond ((b==2)==true) (some (a,())) (some (false,()))) (some (true,()))) (cond ((b==2)==true) (some (a,())) (some (false,())))) (some (true,()))) λ(f,_)=>cond f ((nQ (a,9218868437227405311,())).bind λ(aP,_)=>some (.inr (aP,()))) (some (.inl ()))) λc=>match c with
 |.inl _=>((nQ (a,9218868437227405312,())).bind λ(e,_)=>some (e,()))
 |.inr d=>some d
def uE:lY->Option eg:=λ(a,b,_)=>(ln (a.2.1,())).bind λ(c,_)=>(uH (c,b,())).bind λ(_,d,_)=>some (d,())
def x2:(Bool×Int×Bool×Int×Unit)->Option eg:=λ(c,b,d,a,_)=>(cond (a==1) (some (c,())) (cond (a==2) (some ((!c),())) (cond (a==3) (some (false,())) (cond (decide (b>0)==false) (cond ((b==0)==true) (some (d,())) (some (false,()))) (some (true,()))))))
def x0:(Bool×bX×Int×Bool×Int×Unit)->Option eh:=λ(q,b,a,h,p,_)=>(sm (b,a,())).bind λ(l,_)=>(uE (b,a,())).bind λ(D,_)=>Option.bind (α:=jw⊕eh) (Option.bind (α:=(Bool×bX×bX×Unit)) (cond ((!D)==true) (some ((!h),(false,([],())),l,())) (some (false,(false,([],())),l,()))) λ(F,G,i,_)=>cond F (some (.inr (i,()))) (some (.inl (G,i,())))) λs=>match s with
 |.inl (g,f,_)=>(Option.bind (α:=(Int×bX×bX×Unit)) (cond (decide (a>0)) ((sm (b,ax (a-1),())).bind λ(k,_)=>Option.bind (α:=(Bool×bX×bX×Unit)) ((nN (k,())).bind λ(v,_)=>cond ((v==0)==true) ((lm (k,())).bind λ(w,_)=>some ((w !=0),g,f,())) (some (false,g,f,()))) λ(E,e,c,_)=>cond E (cond (h==false) ((uE (b,ax (a-1),())).bind λ(x,_)=>cond x (some (1,e,c,())) (some (0,e,c,()))) (some (1,e,c,()))) (some ((-1:Int),e,c,()))) (some ((-1:Int),g,f,()))) λ(o,m,d,_)=>Option.bind (α:=(Bool×bX×bX×Unit)) ((lm (d,())).bind λ(y,_)=>cond ((y !=0)==true) ((nN (d,())).bind λ(z,_)=>some ((z==0),m,d,())) (some (false,m,d,()))) λ(r,n,j,_)=>Option.bind (α:=jw) ((x2 (q,o,r,p,())).bind λ(A,_)=>
  cond A ((sj (1,())).bind λ(B,_)=>(o5 (j,B,())).bind λ(C,_)=>some (n,C,())) (some (n,j,()))) λ(_,t,_)=>some (t,()))
 |.inr u=>some u
def xT:eh->Option cq:=λ(f,_)=>(o6 (f,())).bind λ(d,_)=>(cond (decide (au d.2.1>2)) (some (0,false,())) ((loop (σ:=(Int×Int×bX×Unit)) (ρ:=(Int×bX×Unit)) (λ(e,b,a,_)=>cond (decide (b<au a.2.1)) ((aL a.2.1 b).bind λh=>(fL IntKind.u64 (aA h) (ax (32*b))).bind λi=>some (.inl (dP IntKind.u64 e i,aZ b,a,()))) (some (.inr (e,a,())))) (0,0,d,())).bind λ(c,g,_)=>cond g.1 (cond (decide (c>9223372036854775808)) (some (0,false,())) (some (ax (ax (0-ax (aA (c-1)))-1),true,()))) (cond (decide (c>9223372036854775807)) (some (0,false,())) (some (ax c,true,())))))
def x4:(Bool×bX×Int×Bool×Int×Unit)->Option ba:=λ(c,e,a,i,f,_)=>(uD (e,())).bind λ(b,_)=>(bif decide (ax (ax (a+b)-1)>=1024) then(uO (c,f,())).bind λ(p,_)=>some (p,()) else(Option.bind (α:=eh) (cond (decide ((if(-1074:Int)>ax (ax (ax (a+b)-1)-52) then(-1074:Int) else ax (ax (ax (a+b)-1)-52))>=a)) ((x0 (c,e,ax ((if(-1074:Int)>ax (ax (ax (a+b)-1)-52) then(-1074:Int) else ax (ax (ax (a+b)-1)-52))-a),i,f,())).bind λ(q,_)=>some (q,())) ((kG (e,ax (a-(if(-1074:Int)>ax (ax (ax (a+b)-1)-52) then(-1074:Int) else ax (ax (ax (a+b)-1)-52))),())).bind λ(r,_)=>some (r,()))) λ(j,_)=>(xT (j,())).bind λ(g,_,_)=>Option.bind (α:=lg) (bif g==9007199254740992 then some (aZ (if(-1074:Int)>ax (ax (ax (a+b)-1)-52) then(-1074:Int) else ax (ax (ax (a+b)-1)-52)),4503599627370496,()) else
 some ((if(-1074:Int)>ax (ax (ax (a+b)-1)-52) then(-1074:Int) else ax (ax (ax (a+b)-1)-52)),g,())) λ(h,d,_)=>Option.bind (α:=Unit⊕ba) (Option.bind (α:=eg) (cond (decide (d>=4503599627370496)==true) (some (decide (ax (h+53)>1024),())) (some (false,()))) λ(s,_)=>cond s ((uO (c,f,())).bind λ(m,_)=>some (.inr (m,()))) (cond (decide (d>=4503599627370496)) ((fL IntKind.u64 (aA (ax (h+1075))) 52).bind λt=>(nQ (c,dP IntKind.u64 t (aA (ax (d-4503599627370496))),())).bind λ(n,_)=>some (.inr (n,()))) (some (.inl ())))) λk=>match k with
 |.inl _=>((nQ (c,aA d,())).bind λ(o,_)=>some (o,()))
 |.inr l=>some l))
def uN:(bz×Int×Unit)->Option ba:=λ(b,c,_)=>(j8 (b,())).bind λ(a,_)=>(cond a.1 (some (9221120237041090560,())) ((lm (a.2.1,())).bind λ(aP,_)=>cond (aP==0) (some (0,())) ((si (a.2.1,())).bind λ(d,_)=>(x4 (a.2.1.1,d,a.2.2.1,false,c,())).bind λ(e,_)=>some (e,()))))
def qD:lg->Option ba:=λ(b,a,_)=>(uK (b,())).bind λ(c,_)=>(uN (c,a,())).bind λ(aP,_)=>some (aP,())
def r7:ba->Option lg:=λ(a,_)=>(db IntKind.u64 a 52).bind λb=>some (ax (bT IntKind.u64 b 2047),bT IntKind.u64 a 4503599627370495,())
def o0:ba->Option eg:=λ(a,_)=>(r7 (a,())).bind λ(b,_,_)=>some ((b !=2047),())
def fJ:ei->Option ei:=λ(b,_)=>(loop (σ:=ba) (ρ:=ba) (λ(a,_)=>Option.bind (α:=Unit⊕(ba⊕ba)) (cond (decide (a>0)==true) ((aL b (ax (a-1))).bind λi=>cond (i==0) (some (.inl ())) (some (.inr (.inr (a,()))))) (some (.inr (.inr (a,()))))) λg=>match g with
 |.inl _=>(some (.inl (ax (a-1),())))
 |.inr h=>some h) (au b,())).bind λ(f,_)=>((some (0)).bind λc=>(fD f).bind λd=>(gg c d b.length).map λ_=>(c,d)).bind λe=>some (((b.take e.2).drop e.1),())
def iK:(Bool×a7×Unit)->Option eh:=λ(c,b,_)=>(fJ (b,())).bind λ(a,_)=>(cond (au a==0) (some ((false,(([]:a7),())),())) (some ((c,(a,())),())))
def sa:ba->Option eh:=λ(a,_)=>Option.bind (α:=(Int×bX×Unit)) (cond (decide (a<0)) (some (aA (0-aA a),(false,([],())),())) (some (aA a,(false,([],())),()))) λ(b,_,_)=>(db IntKind.u64 b 32).bind λd=>(iK (decide (a<0),[bK (bT IntKind.u64 b 4294967295),bK d],())).bind λ(c,_)=>some (c,())
def xg:ba->Option eg:=λ(a,_)=>some ((bT IntKind.u64 a 9223372036854775808 !=0),())
def qC:ei->Option ei:=λ(a,_)=>lz a.length (some ([],())) ((dd (([]:a7).length+a.length)).bind λ_=>some (([]++a),()))
def o2:eh->Option eh:=λ(a,_)=>(qC (a.2.1,())).bind λ(b,_)=>(iK ((!a.1),b,())).bind λ(c,_)=>some (c,())
def uc:Unit->Option es:=λ_=>some ((true,((false,([],())),((0:Int),()))),())
def xq:eh->Option eh:=λ(a,_)=>(qC (a.2.1,())).bind λ(b,_)=>(iK (a.1,b,())).bind λ(c,_)=>some (c,())
def l6:eh->Option ba:=λ(a,_)=>(fJ (a.2.1,())).bind λ(b,_)=>(cond (au b==0) (some (0,())) (cond a.1 (some ((-1:Int),())) (some (1,()))))
def uq:eh->Option ba:=λ(b,_)=>(loop (σ:=ba) (ρ:=j4) (λ(a,_)=>cond (decide (a<au b.2.1)) ((aL b.2.1 a).bind λc=>cond (c !=0) ((sf (c,())).bind λ(aP,_)=>some (.inr (.inr (ax (ax (a*32)+aP),())))) (some (.inl (aZ a,())))) (some (.inr (.inl ())))) (0,())).bind λd=>match d with
 |.inl _=>(some (0,()))
 |.inr e=>some e
def sc:ei->Option ba:=λ(a,_)=>(cond (au a==0) (some (0,())) ((aL a (ax (au a-1))).bind λc=>(se (c,())).bind λ(b,_)=>some (ax (ax (ax (au a-1)*32)+b),())))
def nL:eh->Option ba:=λ(a,_)=>(fJ (a.2.1,())).bind λ(b,_)=>(sc (b,())).bind λ(c,_)=>some (c,())
def qB:lX->Option ei:=λ(b,e,_)=>(cond (au b==0) (some ([],())) ((g1 IntKind.i64 e 32).bind λc=>(gj e 32).bind λj=>(e6 (aZ (ax (c+au b))) (aZ (ax (c+au b)))).bind λg=>(loop (σ:=fX) (ρ:=ei) (λ(a,d,_)=>cond (decide (a<au b)) ((aL b a).bind λk=>(fL IntKind.u64 (aA k) (aA j)).bind λf=>rd d (ax (c+a)) λl=>wr d (ax (c+a)) (dP IntKind.u32 l (bK (bT IntKind.u64 f 4294967295))) λn=>(db IntKind.u64 f 32).bind λm=>wr n (aZ (ax (c+a))) (bK m) λo=>some (.inl (aZ a,o,()))) (some (.inr (d,())))) (0,List.replicate g (0:Int),())).bind λ(h,_)=>(fJ (h,())).bind λ(i,_)=>some (i,())))
def As:ba->Option eg:=λ(a,_)=>some ((a !=0),())
def Ay:(a7×Unit×Unit)->Option ba:=λ(b,_,_)=>(loop (σ:=ba) (ρ:=j4) (λ(a,_)=>cond (decide (a<au b)) ((aL b a).bind λf=>(As (f,())).bind λ(e,_)=>cond e (some (.inr (.inr (a,())))) (some (.inl (aZ a,())))) (some (.inr (.inl ())))) (0,())).bind λc=>match c with
 |.inl _=>(some ((-1:Int),()))
 |.inr d=>some d
def uv:(a7×Unit×Unit)->Option eg:=λ(b,_,_)=>(Ay (b,(),())).bind λ(a,_)=>some (decide (a>=0),())
def sb:lX->Option (a7×Bool×Unit):=λ(a,h,_)=>(g1 IntKind.i64 h 32).bind λb=>(gj h 32).bind λj=>(bif decide (b>=au a) then some ([],decide (au a>0),()) else Option.bind (α:=eg) (((some (0)).bind λe=>(fD b).bind λf=>(gg e f a.length).map λ_=>(e,f)).bind λi=>(uv (((a.take i.2).drop i.1),(),())).bind λ(p,_)=>cond (p==false) ((aL a b).bind λs=>(fL IntKind.u32 1 (aA j)).bind λt=>some ((bT IntKind.u32 s (bK (t-1))!=0),())) (some (true,()))) λ(l,_)=>(e6 (ax (au a-b)) (ax (au a-b))).bind λg=>(loop (σ:=fX) (ρ:=ei) (λ(c,d,_)=>bif decide (c<au (List.replicate g (0:Int))) then Option.bind (α:=ei) ((aL a (ax (b+c))).bind λk=>Option.bind (α:=fX) (cond (decide (aZ (ax (b+c))<au a)) ((aL a (aZ (ax (b+c)))).bind λu=>(fL IntKind.u64 (aA u) 32).bind λv=>some (dP IntKind.u64 (aA k) v,d,())) (some (aA k,d,()))) λ(r,m,_)=>
 (db IntKind.u64 r (aA j)).bind λw=>wr m c (bK (bT IntKind.u64 w 4294967295)) λx=>some (x,())) λ(n,_)=>some (.inl (aZ c,n,())) else some (.inr (d,()))) (0,List.replicate g (0:Int),())).bind λ(o,_)=>(fJ (o,())).bind λ(q,_)=>some (q,l,()))
def qA:jv->Option ei:=λ(b,d,_)=>Option.bind (α:=jv) (cond (decide (au b<au d)) (some (d,b,())) (some (b,d,()))) λ(c,h,_)=>(e6 0 (aZ (au c))).bind λn=>(loop (σ:=mM) (ρ:=fX) (λ(e,a,f,_)=>cond (decide (a<au c)) (Option.bind (α:=fX) ((aL c a).bind λl=>Option.bind (α:=fX) (cond (decide (a<au h)) ((aL h a).bind λq=>some (aA (aA (aA l+e)+aA q),f,())) (some (aA (aA l+e),f,()))) λ(g,j,_)=>(dd (j.length+([bK (bT IntKind.u64 g 4294967295)]).length)).bind λ_=>(db IntKind.u64 g 32).bind λr=>some (r,(j++[bK (bT IntKind.u64 g 4294967295)]),())) λ(m,o,_)=>some (.inl (m,aZ a,o,()))) (some (.inr (e,f,())))) (0,0,List.replicate n (0:Int),())).bind λ(i,k,_)=>(dd (k.length+([bK i]).length)).bind λ_=>(fJ ((k++[bK i]),())).bind λ(p,_)=>some (p,())
def nM:lY->Option lY:=λ(b,a,_)=>Option.bind (α:=eh⊕lY) (Option.bind (α:=(Bool×bX×Unit)) (cond (decide (a<(-1048576:Int))==false) (some (decide (a>1048576),(false,([],())),())) (some (true,(false,([],())),()))) λ(p,q,_)=>cond p (some (.inr ((false,(([]:a7),())),3,()))) (some (.inl (q,())))) λh=>match h with
 |.inl (f,_)=>((fJ (b.2.1,())).bind λ(c,_)=>cond (decide (a>=0)) ((qB (c,a,())).bind λ(m,_)=>(iK (b.1,m,())).bind λ(n,_)=>some (n,0,())) ((sb (c,ax (0-a),())).bind λ(d,j,_)=>Option.bind (α:=(a7×bX×Unit)) (Option.bind (α:=(Bool×bX×Unit)) (cond (b.1==true) (some (j,f,())) (some (false,f,()))) λ(o,e,_)=>cond o ((qA (d,[1],())).bind λ(k,_)=>some (k,e,())) (some (d,e,()))) λ(g,_,_)=>(iK (b.1,g,())).bind λ(l,_)=>some (l,0,())))
 |.inr i=>some i
def ud:lY->Option eh:=λ(d,f,_)=>(loop (σ:=(Int×bX×bX×Unit)) (ρ:=(Int×bX×bX×Unit)) (λ(a,b,c,_)=>cond (decide (a>1048576)) ((nM (b,(-1048576:Int),())).bind λ(i,_,_)=>some (.inl (ax (a-1048576),i,c,()))) (some (.inr (a,b,c,())))) (f,d,(false,([],())),())).bind λ(g,e,_,_)=>(nM (e,ax (0-g),())).bind λ(h,_,_)=>some (h,())
def l5:es->Option (bz×Bool×Unit):=λ(a,_)=>(bif a.1 then(uc ()).bind λ(j,_)=>some (j,false,()) else(xq (a.2.1,())).bind λ(b,_)=>(l6 (b,())).bind λ(aP,_)=>bif aP==0 then some ((false,((false,([],())),((0:Int),()))),true,()) else((uq (b,())).bind λ(c,_)=>Option.bind (α:=(bz×bX×Unit)⊕(bz×Bool×Unit)) (Option.bind (α:=(Bool×bz×bX×Unit)) ((nL (b,())).bind λ(k,_)=>cond (decide (a.2.2.1>ax (65536-k))==false) (some (decide (a.2.2.1<ax ((-65536:Int)-c)),(false,((false,([],())),((0:Int),()))),b,())) (some (true,(false,((false,([],())),((0:Int),()))),b,()))) λ(l,m,e,_)=>cond l ((uc ()).bind λ(h,_)=>some (.inr (h,false,()))) (some (.inl (m,e,())))) λf=>match f with
 |.inl (_,d,_)=>((ud (d,c,())).bind λ(i,_)=>some ((false,(i,(ax (a.2.2.1+c),()))),true,()))
 |.inr g=>some g))
def r5:lY->Option es:=λ(b,a,_)=>(l5 ((false,(b,(a,()))),())).bind λ(c,_,_)=>some (c,())
def o1:ba->Option es:=λ(b,_)=>(r7 (b,())).bind λ(a,c,_)=>Option.bind (α:=(Int×Int×bz×Unit)⊕es) (cond (a==2047) (some (.inr ((true,((false,([],())),((0:Int),()))),()))) (cond (a==0) (some (.inl ((-1074:Int),c,(false,((false,([],())),((0:Int),()))),()))) (some (.inl (ax (a-1075),dP IntKind.u64 c 4503599627370496,(false,((false,([],())),((0:Int),()))),()))))) λi=>match i with
 |.inl (f,g,e,_)=>((sa (ax g,())).bind λ(d,_)=>Option.bind (α:=(bz×bX×Unit)) ((xg (b,())).bind λ(l,_)=>cond l ((o2 (d,())).bind λ(m,_)=>some (e,m,())) (some (e,d,()))) λ(_,h,_)=>(r5 (h,f,())).bind λ(k,_)=>some (k,()))
 |.inr j=>some j
def w9:kA->Option (bz×bz×Bool×Unit):=λ(c,d,_)=>(l5 (c,())).bind λ(a,aP,_)=>(l5 (d,())).bind λ(b,e,_)=>(cond (aP==true) (some (a,b,e,())) (some (a,b,false,())))
def xy:jv->Option ei:=λ(c,a,_)=>Option.bind (α:=Unit⊕ei) (cond ((au c==0)==false) (cond (au a==0) (some (.inr ([],()))) (some (.inl ()))) (some (.inr ([],())))) λo=>match o with
 |.inl _=>((e6 (ax (au c+au a)) (ax (au c+au a))).bind λl=>(loop (σ:=fX) (ρ:=ei) (λ(b,g,_)=>cond (decide (b<au c)) ((aL c b).bind λh=>(loop (σ:=mM) (ρ:=fX) (λ(e,d,f,_)=>cond (decide (d<au a)) ((aL a d).bind λi=>rd f (ax (b+d)) λj=>wr f (ax (b+d)) (bK (bT IntKind.u64 (aA (aA (aA (aA h*aA i)+aA j)+e)) 4294967295)) λs=>(db IntKind.u64 (aA (aA (aA (aA h*aA i)+aA j)+e)) 32).bind λr=>some (.inl (r,aZ d,s,()))) (some (.inr (e,f,())))) (0,0,g,())).bind λ(k,m,_)=>wr m (ax (b+au a)) (bK k) λt=>some (.inl (aZ b,t,()))) (some (.inr (g,())))) (0,List.replicate l (0:Int),())).bind λ(n,_)=>(fJ (n,())).bind λ(q,_)=>some (q,()))
 |.inr p=>some p
def uo:jw->Option eh:=λ(a,b,_)=>(fJ (a.2.1,())).bind λ(c,_)=>(fJ (b.2.1,())).bind λ(aP,_)=>(xy (c,aP,())).bind λ(d,_)=>(iK ((!(a.1==b.1)),d,())).bind λ(e,_)=>some (e,())
def w2:kA->Option es:=λ(b,c,_)=>(w9 (b,c,())).bind λ(a,aP,d,_)=>(cond (!d) ((uc ()).bind λ(e,_)=>some (e,())) ((uo (a.2.1,aP.2.1,())).bind λ(f,_)=>(r5 (f,ax (a.2.2.1+aP.2.2.1),())).bind λ(g,_)=>some (g,())))
def w3:es->Option es:=λ(b,_)=>(l5 (b,())).bind λ(a,d,_)=>Option.bind (α:=kA) (cond d ((o2 (a.2.1,())).bind λ(aP,_)=>some ((a.1,(aP,a.2.2)),(false,((false,([],())),((0:Int),()))),())) (some (a,(false,((false,([],())),((0:Int),()))),()))) λ(c,_,_)=>some (c,())
def l4:lY->Option eh:=λ(a,b,_)=>(nM (a,b,())).bind λ(c,_,_)=>some (c,())
def w1:ba->Option eg:=λ(a,_)=>some ((a !=a),())
def wY:lg->Option ba:=λ(a,b,_)=>(w1 (a,())).bind λ(c,_)=>(w1 (b,())).bind λ(aP,_)=>(cond c (cond aP (some (0,())) (some ((-1:Int),()))) (cond aP (some (1,())) (cond (decide (a<b)) (some ((-1:Int),())) (cond (decide (a>b)) (some (1,())) (some (0,()))))))
def qz:jv->Option ba:=λ(b,c,_)=>(bif au b !=au c then(r4 (au b,au c,())).bind λ(f,_)=>some (f,()) else((loop (σ:=ba) (ρ:=j4) (λ(a,_)=>cond (decide (a>=0)) ((aL b a).bind λh=>(aL c a).bind λi=>cond (h !=i) ((aL b a).bind λj=>(aL c a).bind λk=>(wY (j,k,())).bind λ(g,_)=>some (.inr (.inr (g,())))) (some (.inl (ax (a-1),())))) (some (.inr (.inl ())))) (ax (au b-1),())).bind λd=>match d with
 |.inl _=>(some (0,()))
 |.inr e=>some e))
def sd:jv->Option ei:=λ(b,d,_)=>(e6 (au b) (au b)).bind λi=>(loop (σ:=mM) (ρ:=ei) (λ(e,a,c,_)=>cond (decide (a<au b)) (Option.bind (α:=fX) ((aL b a).bind λg=>Option.bind (α:=fX) (cond (decide (a<au d)) ((aL d a).bind λn=>some (aA (aA (aA g-e)-aA n),c,())) (some (aA (aA g-e),c,()))) λ(f,j,_)=>wr j a (bK (bT IntKind.u64 f 4294967295)) λp=>(db IntKind.u64 f 32).bind λo=>some (bT IntKind.u64 o 1,p,())) λ(h,k,_)=>some (.inl (h,aZ a,k,()))) (some (.inr (c,())))) (0,0,List.replicate i (0:Int),())).bind λ(l,_)=>(fJ (l,())).bind λ(m,_)=>some (m,())
def qy:jw->Option eh:=λ(a,c,_)=>(fJ (a.2.1,())).bind λ(b,_)=>(fJ (c.2.1,())).bind λ(aP,_)=>(cond (a.1==c.1) ((qA (b,aP,())).bind λ(f,_)=>(iK (a.1,f,())).bind λ(g,_)=>some (g,())) ((qz (b,aP,())).bind λ(h,_)=>cond (decide (h>=0)) ((sd (b,aP,())).bind λ(i,_)=>(iK (a.1,i,())).bind λ(j,_)=>some (j,())) ((sd (aP,b,())).bind λ(d,_)=>(iK (c.1,d,())).bind λ(e,_)=>some (e,()))))
def w8:(kB×Unit)->Option es:=λ(i,_)=>(loop (σ:=(Int×Int×bz×kB×Unit)) (ρ:=((Int×bz×kB×Unit)⊕es)) (λ(c,e,k,b,_)=>cond (decide (e<au i)) ((aL i e).bind λw=>(l5 (w,())).bind λ(a,s,_)=>cond (!s) ((uc ()).bind λ(t,_)=>some (.inr (.inr (t,())))) ((dd (b.length+([a]).length)).bind λ_=>some (.inl ((if a.2.2.1<c then a.2.2.1 else c),aZ e,k,(b++[a]),())))) (some (.inr (.inl (c,k,b,()))))) (0,0,(false,((false,([],())),((0:Int),()))),[],())).bind λn=>match n with
 |.inl (h,u,f,_)=>((loop (σ:=(Int×bz×kB×bX×Unit)) (ρ:=(bz×bX×Unit)) (λ(d,j,g,l,_)=>cond (decide (d<au f)) (rd g d λm=>(l4 (m.2.1,ax (m.2.2.1-h),())).bind λ(p,_)=>(qy (l,p,())).bind λ(q,_)=>some (.inl (aZ d,j,g,q,()))) (some (.inr (j,l,())))) (0,u,f,(false,([],())),())).bind λ(_,v,_)=>(r5 (v,h,())).bind λ(r,_)=>some (r,()))
 |.inr o=>some o
def nK:es->Option ba:=λ(a,_)=>(l5 (a,())).bind λ(b,_,_)=>(l6 (b.2.1,())).bind λ(aP,_)=>some (aP,())
def r6:es->Option es:=λ(a,_)=>(l5 (a,())).bind λ(b,_,_)=>some (b,())
def xx:lX->Option lX:=λ(a,c,_)=>(e6 (au a) (au a)).bind λh=>(loop (σ:=mM) (ρ:=fX) (λ(e,b,d,_)=>cond (decide (b>=0)) ((fL IntKind.u64 e 32).bind λf=>(aL a b).bind λg=>(g1 IntKind.u64 (dP IntKind.u64 f (aA g)) (aA c)).bind λl=>wr d b (bK l) λn=>(gj (dP IntKind.u64 f (aA g)) (aA c)).bind λm=>some (.inl (m,ax (b-1),n,()))) (some (.inr (e,d,())))) (0,ax (au a-1),List.replicate h (0:Int),())).bind λ(k,i,_)=>(fJ (i,())).bind λ(j,_)=>some (j,bK k,())
def xz:ba->Option ba:=λ(b,_)=>(se (b,())).bind λ(a,_)=>some (ax (32-a),())
def ur:((a7×Nat×Nat)×a7×Unit)->Option lX:=λ(b,a,_)=>(bL (b.2.2-b.2.1) (au a)).bind λV=>(bC b.1 (b.2.1+V) λP=>some P).bind λcv=>(fL IntKind.u64 (aA cv) 32).bind λI=>(bL (b.2.2-b.2.1) (ax (au a-1))).bind λad=>(bC b.1 (b.2.1+ad) λT=>some T).bind λK=>(aL a (ax (au a-1))).bind λa0=>(g1 IntKind.u64 (dP IntKind.u64 I (aA K)) (aA a0)).bind λa3=>(aL a (ax (au a-1))).bind λa4=>(gj (dP IntKind.u64 I (aA K)) (aA a4)).bind λbl=>(loop (σ:=(cy×Int×Int×a7×Unit)) (ρ:=(cy×Int×a7×Unit)) (λ(g,h,r,m,_)=>Option.bind (α:=(cy×a7×Unit)⊕((cy×Int×Int×a7×Unit)⊕(cy×Int×a7×Unit))) (bif decide (h>4294967295)==false then(aL a (ax (au a-2))).bind λbs=>(fL IntKind.u64 r 32).bind λce=>(bL (g.2-g.1) (ax (au a-2))).bind λU=>(bC m (g.1+U) λN=>some N).bind λci=>bif decide (aA (h*aA bs)>dP IntKind.u64 ce (aA ci)) then
 some (.inl (g,m,())) else some (.inr (.inr (g,h,m,()))) else some (.inl (g,m,()))) λam=>match am with
 |.inl (C,D,_)=>((aL a (ax (au a-1))).bind λE=>cond (decide (aA (r+aA E)>4294967295)) (some (.inr (C,aA (h-1),D,()))) (some (.inl (C,aA (h-1),aA (r+aA E),D,()))))
 |.inr an=>some an) (b.2,a3,bl,b.1,())).bind λ(ap,i,av,_)=>(loop (σ:=(cy×Int×Int×Int×a7×Unit)) (ρ:=(cy×Int×Int×a7×Unit)) (λ(e,l,p,j,n,_)=>cond (decide (j<au a)) ((aL a j).bind λu=>(db IntKind.u64 (aA (aA (i*aA u)+l)) 32).bind λco=>(bL (e.2-e.1) j).bind λW=>(bC n (e.1+W) λO=>some O).bind λF=>(bL (e.2-e.1) j).bind λy=>(bC n (e.1+y) λ_=>some (n.set (e.1+y) (bK (bT IntKind.u64 (aA (aA (aA F-bT IntKind.u64 (aA (aA (i*aA u)+l)) 4294967295)-p)) 4294967295)))).bind λd1=>(db IntKind.u64 (aA (aA (aA F-bT IntKind.u64 (aA (aA (i*aA u)+l)) 4294967295)-p)) 32).bind λcs=>some (.inl (e,co,bT IntKind.u64 cs 1,aZ j,d1,()))) (some (.inr (e,l,p,n,())))) (ap,0,0,0,av,())).bind λ(c,x,w,s,_)=>(bL (c.2-c.1) (au a)).bind λX=>(bC s (c.1+X) λQ=>some Q).bind λG=>
 (bL (c.2-c.1) (au a)).bind λz=>(bC s (c.1+z) λ_=>some (s.set (c.1+z) (bK (bT IntKind.u64 (aA (aA (aA G-x)-w)) 4294967295)))).bind λv=>(db IntKind.u64 (aA (aA (aA G-x)-w)) 32).bind λdl=>(bif bT IntKind.u64 dl 1==0 then cond (Nat.beq c.1 b.2.1&&(Nat.beq c.2 b.2.2&&(Nat.beq v.length ((b.1).length)&&Nat.blt c.1 c.2))) (some (v,bK i,())) none else(loop (σ:=(cy×Int×Int×a7×Unit)) (ρ:=(cy×Int×a7×Unit)) (λ(f,q,k,o,_)=>cond (decide (k<au a)) ((aL a k).bind λH=>(bL (f.2-f.1) k).bind λY=>(bC o (f.1+Y) λR=>some R).bind λJ=>(bL (f.2-f.1) k).bind λA=>(bC o (f.1+A) λ_=>some (o.set (f.1+A) (bK (bT IntKind.u64 (aA (aA (aA J+aA H)+q)) 4294967295)))).bind λd2=>(db IntKind.u64 (aA (aA (aA J+aA H)+q)) 32).bind λds=>some (.inl (f,ds,aZ k,d2,()))) (some (.inr (f,q,o,())))) (c,0,0,v,())).bind λ(d,M,t,_)=>
 (bL (d.2-d.1) (au a)).bind λZ=>(bC t (d.1+Z) λS=>some S).bind λd0=>(bL (d.2-d.1) (au a)).bind λB=>(bC t (d.1+B) λ_=>some (t.set (d.1+B) (bK (d0+bK M)))).bind λL=>cond (Nat.beq d.1 b.2.1&&(Nat.beq d.2 b.2.2&&(Nat.beq L.length ((b.1).length)&&Nat.blt d.1 d.2))) (some (L,bK (aA (i-1)),())) none)
def us:jv->Option jv:=λ(a,b,_)=>(qz (a,b,())).bind λ(t,_)=>(bif decide (t<0) then(qC (a,())).bind λ(u,_)=>some ([],u,()) else bif au b==1 then(aL b 0).bind λC=>(xx (a,C,())).bind λ(v,w,_)=>(fJ ([w],())).bind λ(x,_)=>some (v,x,()) else(aL b (ax (au b-1))).bind λD=>(xz (D,())).bind λ(h,_)=>(qB (b,h,())).bind λ(e,_)=>(e6 (aZ (au a)) (aZ (au a))).bind λc=>(qB (a,h,())).bind λ(i,_)=>(e6 (ax (au (iI (List.replicate c (0:Int)) i 0 (List.replicate c (0:Int)).length)-au e)) (ax (au (iI (List.replicate c (0:Int)) i 0 (List.replicate c (0:Int)).length)-au e))).bind λn=>(loop (σ:=(Int×a7×a7×Unit)) (ρ:=jv) (λ(d,p,g,_)=>bif decide (d>=0) then((fD d).bind λj=>(fD (aZ (ax (d+au e)))).bind λk=>(gg j k g.length).bind λ_=>(zc g.length).map λ_=>(j,k)).bind λf=>
 cond (Nat.blt f.1 f.2) ((ur ((g,f.1,f.2),e,())).bind λ(r,y,_)=>wr p d y λE=>some (.inl (ax (d-1),E,r,()))) none else some (.inr (p,g,()))) (ax (au (List.replicate n (0:Int))-1),List.replicate n (0:Int),iI (List.replicate c (0:Int)) i 0 (List.replicate c (0:Int)).length,())).bind λ(s,q,_)=>((some (0)).bind λl=>(fD (au e)).bind λm=>(gg l m q.length).map λ_=>(l,m)).bind λo=>(fJ (((q.take o.2).drop o.1),())).bind λ(z,_)=>(sb (z,h,())).bind λ(A,_,_)=>(fJ (s,())).bind λ(B,_)=>some (B,A,()))
def xw:ei->Option ei:=λ(b,_)=>(cond (au b==0) (some ([],())) ((sc (b,())).bind λ(e,_)=>(g1 IntKind.i64 (aZ e) 2).bind λh=>(qB ([1],h,())).bind λ(aP,_)=>(loop (σ:=ei) (ρ:=ei) (λ(a,_)=>(us (b,a,())).bind λ(f,_,_)=>(qA (a,f,())).bind λ(g,_)=>(sb (g,1,())).bind λ(c,_,_)=>(qz (c,a,())).bind λ(d,_)=>cond (decide (d>=0)) (some (.inr (a,()))) (some (.inl (c,())))) (aP,())).bind some))
def xu:eh->Option lY:=λ(a,_)=>(l6 (a,())).bind λ(b,_)=>(cond (decide (b<0)) (some ((false,(([]:a7),())),11,())) ((fJ (a.2.1,())).bind λ(c,_)=>(xw (c,())).bind λ(aP,_)=>(iK (false,aP,())).bind λ(d,_)=>some (d,0,())))
def um:jw->Option ba:=λ(b,c,_)=>(l6 (b,())).bind λ(a,_)=>(l6 (c,())).bind λ(aP,_)=>(cond (decide (a<aP)) (some ((-1:Int),())) (cond (decide (a>aP)) (some (1,())) ((fJ (b.2.1,())).bind λ(d,_)=>(fJ (c.2.1,())).bind λ(e,_)=>(qz (d,e,())).bind λ(f,_)=>some (ax (a*f),()))))
def w7:(bz×Int×Unit)->Option (oN×Unit):=λ(c,a,_)=>(nL (c.2.1,())).bind λ(b,_)=>Option.bind (α:=(Int×oN×Unit)) ((gj (ax (c.2.2.1-(if(ax (ax (2*ax (a+3))-b))>0 then ax (ax (2*ax (a+3))-b) else 0))) 2).bind λj=>cond (j !=0) (some (aZ (if(ax (ax (2*ax (a+3))-b))>0 then ax (ax (2*ax (a+3))-b) else 0),(false,((false,([],())),((0:Int),(false,())))),())) (some ((if(ax (ax (2*ax (a+3))-b))>0 then ax (ax (2*ax (a+3))-b) else 0),(false,((false,([],())),((0:Int),(false,())))),()))) λ(e,_,_)=>(l4 (c.2.1,e,())).bind λ(f,_)=>(xu (f,())).bind λ(d,_,_)=>(g1 IntKind.i64 (ax (c.2.2.1-e)) 2).bind λi=>(uo (d,d,())).bind λ(g,_)=>(um (g,f,())).bind λ(h,_)=>some ((false,(d,(i,((h !=0),())))),())
def w5:(oN×Unit)->Option ba:=λ(a,_)=>(nL (a.2.1,())).bind λ(b,_)=>some (ax (ax (a.2.2.1+b)-1),())
def xv:jw->Option eh:=λ(b,a,_)=>(qy (b,((!a.1),a.2),())).bind λ(c,_)=>some (c,())
def ub:(oN×Int×Unit)->Option (bX×Int×Bool×Unit):=λ(a,b,_)=>(nL (a.2.1,())).bind λ(h,_)=>(cond (decide (b>h)) (some ((false,(([]:a7),())),(-1:Int),false,())) ((ud (a.2.1,b,())).bind λ(aP,_)=>(l4 (aP,b,())).bind λ(i,_)=>(xv (a.2.1,i,())).bind λ(c,_)=>(sa (1,())).bind λ(j,_)=>(l4 (j,ax (b-1),())).bind λ(k,_)=>(um (c,k,())).bind λ(d,_)=>Option.bind (α:=(Int×bX×bX×Unit)) (cond ((d==0)==true) (cond a.2.2.2.1 (some (1,aP,c,())) (some (d,aP,c,()))) (some (d,aP,c,()))) λ(e,f,l,_)=>(l6 (l,())).bind λ(g,_)=>cond ((g==0)==true) (some (f,e,(!a.2.2.2.1),())) (some (f,e,false,()))))
def w6:(oN×Int×Int×Unit)->Option eh:=λ(c,e,d,_)=>Option.bind (α:=(Int×Bool×bX×bX×Unit)) (cond (decide (e<=c.2.2.1)) ((l4 (c.2.1,ax (c.2.2.1-e),())).bind λ(aP,_)=>some ((-1:Int),true,(false,([],())),aP,())) ((ub (c,ax (e-c.2.2.1),())).bind λ(s,t,u,_)=>some (t,u,(false,([],())),s,()))) λ(f,l,b,a,_)=>Option.bind (α:=(Bool×bX×bX×Unit)) (cond l (some (false,b,a,())) (cond (d==1) (some (c.1,b,a,())) (cond (d==2) (some ((!c.1),b,a,())) (cond (d==3) (some (false,b,a,())) (cond (decide (f>0)==false) (cond ((f==0)==true) ((l6 (a,())).bind λ(n,_)=>cond ((n !=0)==true) ((uq (a,())).bind λ(o,_)=>some ((o==0),b,a,())) (some (false,b,a,()))) (some (false,b,a,()))) (some (true,b,a,()))))))) λ(k,i,g,_)=>Option.bind (α:=jw) (cond k ((sa (1,())).bind λ(p,_)=>(qy (g,p,())).bind λ(q,_)=>some (i,q,())) (some (i,g,()))) λ(j,h,_)=>Option.bind (α:=jw) (cond c.1 ((o2 (h,())).bind λ(r,_)=>some (j,r,())) (some (j,h,()))) λ(_,m,_)=>some (m,())
def r9:eh->Option eh:=λ(a,_)=>(qC (a.2.1,())).bind λ(b,_)=>(iK (false,b,())).bind λ(c,_)=>some (c,())
def xp:eh->Option cq:=λ(c,_)=>(fJ (c.2.1,())).bind λ(d,_)=>(bif decide (au d>2) then some (0,false,()) else((loop (σ:=lg) (ρ:=ba) (λ(e,b,_)=>cond (decide (b<au d)) ((aL d b).bind λj=>(fL IntKind.u64 (aA j) (ax (32*b))).bind λk=>some (.inl (dP IntKind.u64 e k,aZ b,()))) (some (.inr (e,())))) (0,0,())).bind λ(a,_)=>Option.bind (α:=Unit⊕cq) (Option.bind (α:=eg) (cond (c.1==true) (cond (decide (a>0)==true) (some (decide (a<=9223372036854775808),())) (some (false,()))) (some (false,()))) λ(h,_)=>cond h (some (.inr (ax (ax (0-ax (aA (a-1)))-1),true,()))) (Option.bind (α:=eg) (cond (decide (a<9223372036854775808)==true) (cond ((!c.1)==false) (some ((a==0),())) (some (true,()))) (some (false,()))) λ(i,_)=>cond i (some (.inr (ax a,true,()))) (some (.inl ())))) λf=>match f with
 |.inl _=>(some (0,false,()))
 |.inr g=>some g))
def qx:cq->Option ba:=λ(a,b,_)=>(cond b (some (dP IntKind.u64 a 9223372036854775808,())) (some (a,())))
def xh:ct->Option ba:=λ(a,b,_)=>Option.bind (α:=Unit⊕ba) (Option.bind (α:=eg) (cond ((b==3)==false) (cond ((b==1)==true) (cond ((!a)==false) (cond ((b==2)==true) (some (a,())) (some (false,()))) (some (true,()))) (cond ((b==2)==true) (some (a,())) (some (false,())))) (some (true,()))) λ(f,_)=>cond f ((qx (9218868437227405311,a,())).bind λ(aP,_)=>some (.inr (aP,()))) (some (.inl ()))) λc=>match c with
 |.inl _=>((qx (9218868437227405312,a,())).bind λ(e,_)=>some (e,()))
 |.inr d=>some d
def ue:(oN×Int×Unit)->Option ba:=λ(b,d,_)=>(w5 (b,())).bind λ(a,_)=>(w6 (b,(if(-1074:Int)>ax (a-52) then(-1074:Int) else ax (a-52)),d,())).bind λ(aP,_)=>(r9 (aP,())).bind λ(j,_)=>(xp (j,())).bind λ(f,_,_)=>Option.bind (α:=lg) (cond (aA f==9007199254740992) (some (aZ (if(-1074:Int)>ax (a-52) then(-1074:Int) else ax (a-52)),4503599627370496,())) (some ((if(-1074:Int)>ax (a-52) then(-1074:Int) else ax (a-52)),aA f,()))) λ(e,c,_)=>(cond (decide (c<4503599627370496)) ((qx (c,b.1,())).bind λ(g,_)=>some (g,())) (cond (decide (ax (e+1075)>=2047)) ((xh (b.1,d,())).bind λ(h,_)=>some (h,())) ((fL IntKind.u64 (aA (ax (e+1075))) 52).bind λk=>(qx (dP IntKind.u64 k (aA (c-4503599627370496)),b.1,())).bind λ(i,_)=>some (i,()))))
def xf:(bz×Int×Unit)->Option ba:=λ(c,e,_)=>(r6 (c,())).bind λ(a,_)=>Option.bind (α:=es⊕ba) (Option.bind (α:=(Bool×bz×Unit)) (cond (a.1==false) ((nK (a,())).bind λ(aP,_)=>some (decide (aP<0),a,())) (some (true,a,()))) λ(k,b,_)=>cond k (some (.inr (9221120237041090560,()))) ((nK (b,())).bind λ(i,_)=>cond (i==0) (some (.inr (0,()))) (some (.inl (b,()))))) λf=>match f with
 |.inl (d,_)=>((w7 (d,56,())).bind λ(j,_)=>(ue (j,e,())).bind λ(h,_)=>some (h,()))
 |.inr g=>some g
def xd:ba->Option ba:=λ(c,_)=>(r7 (c,())).bind λ(a,b,_)=>Option.bind (α:=eg) (cond ((a==2047)==true) (some ((b !=0),())) (some (false,()))) λ(d,_)=>(cond d (some (3,())) (cond (a==2047) (some (2,())) (cond ((a==0)==true) (cond (b==0) (some (0,())) (some (1,()))) (some (1,())))))
def xo:jw->Option (bX×bX×Int×Unit):=λ(a,d,_)=>(fJ (d.2.1,())).bind λ(b,_)=>(cond (au b==0) (some ((false,(([]:a7),())),(false,(([]:a7),())),8,())) ((fJ (a.2.1,())).bind λ(aP,_)=>(us (aP,b,())).bind λ(f,c,_)=>Option.bind (α:=(a7×a7×bX×bX×Unit)) (Option.bind (α:=(Bool×bX×bX×Unit)) (cond (a.1==true) (some (decide (au c>0),(false,([],())),(false,([],())),())) (some (false,(false,([],())),(false,([],())),()))) λ(n,e,g,_)=>cond n ((qA (f,[1],())).bind λ(j,_)=>(sd (b,c,())).bind λ(k,_)=>some (j,k,e,g,())) (some (f,c,e,g,()))) λ(h,i,_,_,_)=>(iK ((!(a.1==d.1)),h,())).bind λ(l,_)=>(iK (false,i,())).bind λ(m,_)=>some (l,m,0,())))
def w4:(bz×bz×Int×Unit)->Option (oN×Unit):=λ(a,b,c,_)=>(nL (b.2.1,())).bind λ(aP,_)=>(nL (a.2.1,())).bind λ(d,_)=>(r9 (a.2.1,())).bind λ(g,_)=>(l4 (g,(if(ax (ax (ax (c+3)+aP)-d))>0 then ax (ax (ax (c+3)+aP)-d) else 0),())).bind λ(h,_)=>(r9 (b.2.1,())).bind λ(i,_)=>(xo (h,i,())).bind λ(j,e,_,_)=>(l6 (e,())).bind λ(f,_)=>some (((!(a.2.1.1==b.2.1.1)),(j,(ax (ax (a.2.2.1-(if(ax (ax (ax (c+3)+aP)-d))>0 then ax (ax (ax (c+3)+aP)-d) else 0))-b.2.2.1),((f !=0),())))),())
def xe:(bz×bz×Int×Unit)->Option ba:=λ(c,f,h,_)=>(r6 (c,())).bind λ(aP,_)=>(r6 (f,())).bind λ(a,_)=>Option.bind (α:=kA⊕ba) (Option.bind (α:=(Bool×bz×bz×Unit)) (cond (aP.1==false) (cond (a.1==false) ((nK (a,())).bind λ(n,_)=>some ((n==0),aP,a,())) (some (true,aP,a,()))) (some (true,aP,a,()))) λ(o,b,g,_)=>cond o (some (.inr (9221120237041090560,()))) ((nK (b,())).bind λ(k,_)=>cond (k==0) (some (.inr (0,()))) (some (.inl (b,g,()))))) λi=>match i with
 |.inl (d,e,_)=>((w4 (d,e,56,())).bind λ(l,_)=>(ue (l,h,())).bind λ(m,_)=>some (m,()))
 |.inr j=>some j
def sn:ba->Option eg:=λ(a,_)=>(db IntKind.u64 a 52).bind λb=>some ((bT IntKind.u64 b 2047 !=2047),())
def x3:ba->Option eg:=λ(a,_)=>some ((bT IntKind.u64 a 9223372036854775808 !=0),())
def nP:ba->Option es:=λ(a,_)=>(sn (a,())).bind λ(f,_)=>(cond (!f) ((nO ()).bind λ(g,_)=>some (g,())) ((db IntKind.u64 a 52).bind λc=>Option.bind (α:=(Int×Int×bz×Unit)) (cond (decide (ax (bT IntKind.u64 c 2047)>0)) (some (dP IntKind.u64 (bT IntKind.u64 a 4503599627370495) 4503599627370496,ax (ax (bT IntKind.u64 c 2047)-1075),(false,((false,([],())),((0:Int),()))),())) (some (bT IntKind.u64 a 4503599627370495,(-1074:Int),(false,((false,([],())),((0:Int),()))),()))) λ(b,d,_,_)=>(x3 (a,())).bind λ(h,_)=>(db IntKind.u64 b 32).bind λi=>(kH ((h,([bK b,bK i],())),d,())).bind λ(e,_)=>some (e,())))
def sk:es->Option es:=λ(b,_)=>(j8 (b,())).bind λ(a,_)=>(cond a.1 (some (a,())) ((si (a.2.1,())).bind λ(c,_)=>(kH (c,a.2.2.1,())).bind λ(aP,_)=>some (aP,())))
def sl:(kB×Unit)->Option es:=λ(h,_)=>(loop (σ:=(Int×Int×bz×bX×Unit)) (ρ:=((Int×bz×bX×Unit)⊕es)) (λ(b,e,c,d,_)=>bif decide (e<au h) then(Option.bind (α:=(Int×bz×bX×Unit)⊕((Int×Int×bz×bX×Unit)⊕((Int×bz×bX×Unit)⊕es))) ((aL h e).bind λv=>(j8 (v,())).bind λ(a,_)=>cond a.1 ((nO ()).bind λ(q,_)=>some (.inr (.inr (.inr (q,()))))) ((lm (a.2.1,())).bind λ(r,_)=>cond (r==0) (some (.inl (b,c,d,()))) ((lm (d,())).bind λ(k,_)=>cond (k==0) (some (.inl (a.2.2.1,c,a.2.1,()))) (cond (decide (a.2.2.1>=b)) ((kG (a.2.1,ax (a.2.2.1-b),())).bind λ(l,_)=>(o5 (d,l,())).bind λ(m,_)=>some (.inl (b,c,m,()))) ((kG (d,ax (b-a.2.2.1),())).bind λ(n,_)=>(o5 (n,a.2.1,())).bind λ(o,_)=>some (.inl (a.2.2.1,c,o,()))))))) λf=>match f with
 |.inl (i,s,t,_)=>(some (.inl (i,aZ e,s,t,())))
 |.inr g=>some g) else some (.inr (.inl (b,c,d,())))) (0,0,(false,((false,([],())),((0:Int),()))),(false,(([]:a7),())),())).bind λf=>match f with
 |.inl (j,_,u,_)=>((kH (u,j,())).bind λ(p,_)=>some (p,()))
 |.inr g=>some g
def xX:jv->Option ei:=λ(d,b,_)=>(e6 (ax (au d+au b)) (ax (au d+au b))).bind λl=>(loop (σ:=fX) (ρ:=ei) (λ(a,g,_)=>cond (decide (a<au d)) ((loop (σ:=mM) (ρ:=fX) (λ(e,c,f,_)=>cond (decide (c<au b)) ((aL d a).bind λj=>(aL b c).bind λh=>rd f (ax (a+c)) λi=>wr f (ax (a+c)) (bK (aA (aA (e+aA (aA j*aA h))+aA i))) λp=>(db IntKind.u64 (aA (aA (e+aA (aA j*aA h))+aA i)) 32).bind λo=>some (.inl (o,aZ c,p,()))) (some (.inr (e,f,())))) (0,0,g,())).bind λ(k,m,_)=>wr m (ax (a+au b)) (bK k) λq=>some (.inl (aZ a,q,()))) (some (.inr (g,())))) (0,List.replicate l (0:Int),())).bind λ(n,_)=>some (n,())
def xU:jw->Option eh:=λ(a,b,_)=>(ln (a.2.1,())).bind λ(c,_)=>(ln (b.2.1,())).bind λ(aP,_)=>(xX (c,aP,())).bind λ(d,_)=>(j7 ((!(a.1==b.1)),d,())).bind λ(e,_)=>some (e,())
def uL:kA->Option es:=λ(d,f,_)=>(j8 (d,())).bind λ(a,_)=>(j8 (f,())).bind λ(aP,_)=>Option.bind (α:=(bz×bz×bz×Unit)⊕es) (Option.bind (α:=(Bool×bz×bz×bz×Unit)) (cond (a.1==false) (some (aP.1,a,aP,(false,((false,([],())),((0:Int),()))),())) (some (true,a,aP,(false,((false,([],())),((0:Int),()))),()))) λ(m,e,g,n,_)=>cond m ((nO ()).bind λ(l,_)=>some (.inr (l,()))) (some (.inl (e,g,n,())))) λh=>match h with
 |.inl (b,c,_,_)=>((xU (b.2.1,c.2.1,())).bind λ(j,_)=>(kH (j,ax (b.2.2.1+c.2.2.1),())).bind λ(k,_)=>some (k,()))
 |.inr i=>some i
def uM:es->Option es:=λ(b,_)=>(j8 (b,())).bind λ(a,_)=>(cond a.1 (some (a,())) ((uF (a.2.1,())).bind λ(c,_)=>(kH (c,a.2.2.1,())).bind λ(aP,_)=>some (aP,())))
def xS:jw->Option ba:=λ(a,b,_)=>(uG (a,b,())).bind λ(c,_)=>(lm (c,())).bind λ(aP,_)=>some (aP,())
def o7:(bz×Int×Unit)->Option es:=λ(i,b,_)=>(j8 (i,())).bind λ(a,_)=>Option.bind (α:=kA⊕es) (Option.bind (α:=(Bool×bz×bz×Unit)) (cond (a.1==false) ((lm (a.2.1,())).bind λ(aP,_)=>some ((aP==0),a,(false,((false,([],())),((0:Int),()))),())) (some (true,a,(false,((false,([],())),((0:Int),()))),()))) λ(o,f,p,_)=>cond o (some (.inr (f,()))) (some (.inl (f,p,())))) λc=>match c with
 |.inl (g,h,_)=>(Option.bind (α:=kA⊕es) (Option.bind (α:=(Bool×bz×bz×Unit)) (cond (decide (b>262144)==false) (some (decide (b<(-262144:Int)),g,h,())) (some (true,g,h,()))) λ(m,j,n,_)=>cond m ((nO ()).bind λ(k,_)=>some (.inr (k,()))) (some (.inl (j,n,())))) λc=>match c with
 |.inl (e,_,_)=>((kH (e.2.1,ax (e.2.2.1+b),())).bind λ(l,_)=>some (l,()))
 |.inr d=>some d)
 |.inr d=>some d
def o8:kA->Option (bX×bX×Int×Unit):=λ(a,b,_)=>(lm (a.2.1,())).bind λ(c,_)=>(cond (c==0) (some (a.2.1,b.2.1,b.2.2.1,())) ((lm (b.2.1,())).bind λ(aP,_)=>cond (aP==0) (some (a.2.1,b.2.1,a.2.2.1,())) (cond (decide (a.2.2.1>b.2.2.1)) ((kG (a.2.1,ax (a.2.2.1-b.2.2.1),())).bind λ(d,_)=>some (d,b.2.1,b.2.2.1,())) ((kG (b.2.1,ax (b.2.2.1-a.2.2.1),())).bind λ(e,_)=>some (a.2.1,e,a.2.2.1,())))))
def uJ:kA->Option es:=λ(b,f,_)=>(j8 (b,())).bind λ(a,_)=>(j8 (f,())).bind λ(aP,_)=>Option.bind (α:=(bz×bz×bz×Unit)⊕es) (Option.bind (α:=(Bool×bz×bz×bz×Unit)) (cond (a.1==false) (some (aP.1,a,aP,(false,((false,([],())),((0:Int),()))),())) (some (true,a,aP,(false,((false,([],())),((0:Int),()))),()))) λ(p,d,g,q,_)=>cond p ((nO ()).bind λ(o,_)=>some (.inr (o,()))) (some (.inl (d,g,q,())))) λh=>match h with
 |.inl (c,e,_,_)=>((o8 (c,e,())).bind λ(j,k,l,_)=>(o5 (j,k,())).bind λ(m,_)=>(kH (m,l,())).bind λ(n,_)=>some (n,()))
 |.inr i=>some i
def x1:kA->Option es:=λ(a,b,_)=>(uM (b,())).bind λ(c,_)=>(uJ (a,c,())).bind λ(aP,_)=>some (aP,())
def xZ:kA->Option cq:=λ(b,e,_)=>(j8 (b,())).bind λ(a,_)=>(j8 (e,())).bind λ(aP,_)=>Option.bind (α:=kA⊕cq) (Option.bind (α:=(Bool×bz×bz×Unit)) (cond (a.1==false) (some (aP.1,a,aP,())) (some (true,a,aP,()))) λ(m,c,f,_)=>cond m (some (.inr (0,false,()))) (some (.inl (c,f,())))) λh=>match h with
 |.inl (d,g,_)=>((o8 (d,g,())).bind λ(j,k,_,_)=>(xS (j,k,())).bind λ(l,_)=>some (l,true,()))
 |.inr i=>some i
def xG:(Int×Int×Int×Unit)->Option eg:=λ(a,c,b,_)=>(cond (decide (a>=c)==true) (some (decide (a<=b),())) (some (false,())))
def xL:ei->Option eg:=λ(b,_)=>(loop (σ:=ba) (ρ:=hL) (λ(a,_)=>cond (decide (a>0)) ((aL b a).bind λf=>(aL b (ax (a-1))).bind λg=>(qw (f,g,())).bind λ(e,_)=>cond e (some (.inr (.inr (false,())))) (some (.inl (ax (a-1),())))) (some (.inr (.inl ())))) (ax (au b-1),())).bind λc=>match c with
 |.inl _=>(some (true,()))
 |.inr d=>some d
def xD:mN->Option eg:=λ(a,_)=>Option.bind (α:=Unit⊕eg) (cond ((au a.2.2.1 !=aZ a.2.1)==false) ((aL a.2.2.1 0).bind λm=>cond ((m !=0)==false) ((xL (a.2.2.1,())).bind λ(l,_)=>cond ((!l)==false) ((aL a.2.2.1 a.2.1).bind λn=>cond ((n !=au a.2.2.2.1)==false) (cond (au a.2.2.2.1 !=au a.2.2.2.2.1) (some (.inr (false,()))) (some (.inl ()))) (some (.inr (false,())))) (some (.inr (false,())))) (some (.inr (false,())))) (some (.inr (false,())))) λb=>match b with
 |.inl _=>((loop (σ:=ba) (ρ:=hL) (λ(e,_)=>bif decide (e<a.2.1) then((aL a.2.2.1 e).bind λo=>(aL a.2.2.1 (aZ e)).bind λp=>((fD o).bind λh=>(fD p).bind λi=>(gg h i (a.2.2.2.1).length).map λ_=>(h,i)).bind λd=>(loop (σ:=lg) (ρ:=(Unit⊕(ba⊕hL))) (λ(j,f,_)=>bif decide (f<au (((a.2.2.2.1).take d.2).drop d.1)) then(Option.bind (α:=ba⊕(lg⊕(Unit⊕(ba⊕hL)))) ((aL (((a.2.2.2.1).take d.2).drop d.1) f).bind λg=>Option.bind (α:=Unit⊕(ba⊕(lg⊕(Unit⊕(ba⊕hL))))) (cond (decide (g<=j)==false) (cond (decide (g>=a.1)) (some (.inr (.inr (.inr (.inr (.inr (.inr (false,())))))))) (some (.inl ()))) (some (.inr (.inr (.inr (.inr (.inr (.inr (false,()))))))))) λb=>match b with
 |.inl _=>(some (.inl (g,())))
 |.inr c=>some c) λb=>match b with
 |.inl (k,_)=>(some (.inl (k,aZ f,())))
 |.inr c=>some c) else some (.inr (.inl ()))) ((-1:Int),0,())).bind λb=>match b with
 |.inl _=>(some (.inl (aZ e,())))
 |.inr c=>some c) else some (.inr (.inl ()))) (0,())).bind λb=>match b with
 |.inl _=>(some (true,()))
 |.inr c=>some c)
 |.inr c=>some c
def Au:ba->Option eg:=λ(a,_)=>(o0 (a,())).bind λ(b,_)=>some ((!b),())
def Aw:(a7×Unit×Unit)->Option ba:=λ(b,_,_)=>(loop (σ:=ba) (ρ:=j4) (λ(a,_)=>cond (decide (a<au b)) ((aL b a).bind λf=>(Au (f,())).bind λ(e,_)=>cond e (some (.inr (.inr (a,())))) (some (.inl (aZ a,())))) (some (.inr (.inl ())))) (0,())).bind λc=>match c with
 |.inl _=>(some ((-1:Int),()))
 |.inr d=>some d
def xJ:(a7×Unit×Unit)->Option eg:=λ(b,_,_)=>(Aw (b,(),())).bind λ(a,_)=>some (decide (a>=0),())
def o3:mN->Option ba:=λ(a,_)=>Option.bind (α:=eg) ((xG (a.1,0,200,())).bind λ(b,_)=>cond ((!b)==false) ((xG (a.2.1,0,200,())).bind λ(c,_)=>cond ((!c)==false) (some (decide (au a.2.2.2.1>10000),())) (some (true,()))) (some (true,()))) λ(f,_)=>(cond f (some (6,())) ((xD (a,())).bind λ(d,_)=>cond (!d) (some (1,())) ((xJ (a.2.2.2.2.1,(),())).bind λ(e,_)=>cond e (some (4,())) (some (0,())))))
def x9:lX->Option (a7×Bool×Unit):=λ(h,a,_)=>(bif au h !=a then some ([],false,()) else((e6 a a).bind λi=>(e6 a a).bind λj=>(loop (σ:=(Int×a7×ju×Unit)) (ρ:=(ei⊕(a7×Bool×Unit))) (λ(f,e,g,_)=>bif decide (f<au h) then(Option.bind (α:=(a7×ju×Unit)⊕((Int×a7×ju×Unit)⊕(ei⊕(a7×Bool×Unit)))) ((aL h f).bind λd=>Option.bind (α:=(a7×ju×Unit)⊕((a7×ju×Unit)⊕((Int×a7×ju×Unit)⊕(ei⊕(a7×Bool×Unit))))) (Option.bind (α:=(Bool×a7×ju×Unit)) (cond (decide (d<0)==false) (cond (decide (d>=a)==false) (rd g d λs=>some (s,e,g,())) (some (true,e,g,()))) (some (true,e,g,()))) λ(o,k,p,_)=>cond o (some (.inr (.inr (.inr (.inr ([],false,())))))) (some (.inl (k,p,())))) λb=>match b with
 |.inl (l,q,_)=>(wr l d f λt=>wr q d true λu=>some (.inl (t,u,())))
 |.inr c=>some c) λb=>match b with
 |.inl (m,r,_)=>(some (.inl (aZ f,m,r,())))
 |.inr c=>some c) else some (.inr (.inl (e,())))) (0,List.replicate i (0:Int),List.replicate j false,())).bind λb=>match b with
 |.inl (n,_)=>(some (n,true,()))
 |.inr c=>some c))
def uu:mN->Option jb:=λ(b,_)=>(loop (σ:=qm) (ρ:=jb) (λ(a,e,_)=>cond (decide (a<b.2.1)) ((aL b.2.2.1 a).bind λj=>(loop (σ:=qm) (ρ:=jb) (λ(c,d,_)=>(aL b.2.2.1 (aZ a)).bind λk=>cond (decide (c<k)) ((aL b.2.2.2.1 c).bind λf=>(aL b.2.2.2.2.1 c).bind λg=>(dd (d.length+([(f,(a,(g,())))]).length)).bind λ_=>some (.inl (aZ c,(d++[(f,(a,(g,())))]),()))) (some (.inr (d,())))) (j,e,())).bind λ(h,_)=>some (.inl (aZ a,h,()))) (some (.inr (e,())))) (0,[],())).bind λ(i,_)=>some (i,())
def Av:jb->Option jb:=λ(a,_)=>lz a.length (some ([],())) ((dd (([]:j5).length+a.length)).bind λ_=>some (([]++a),()))
def xF:((Int×(Int×ba))×(Int×(Int×ba))×Unit)->Option ba:=λ(a,b,_)=>(r4 (a.2.1,b.2.1,())).bind λ(c,_)=>(r4 (a.1,b.1,())).bind λ(aP,_)=>(wZ ([c,aP],())).bind λ(d,_)=>some (d,())
def ux:(j5×Int×Int×Unit×Unit)->Option jb:=λ(h,e,g,_,_)=>(loop (σ:=qm) (ρ:=jb) (λ(d,f,_)=>bif decide (d<g) then(loop (σ:=qm) (ρ:=jb) (λ(a,b,_)=>Option.bind (α:=jb⊕(qm⊕jb)) (cond (decide (a>e)==true) (rd b a λn=>rd b (ax (a-1)) λo=>(xF (n,o,())).bind λ(m,_)=>cond (decide (m<0)) (some (.inl (b,()))) (some (.inr (.inr (b,()))))) (some (.inr (.inr (b,()))))) λk=>match k with
 |.inl (c,_)=>(rd c (ax (a-1)) λp=>rd c a λq=>wr c a p λr=>wr r (ax (a-1)) q λs=>some (.inl (ax (a-1),s,())))
 |.inr l=>some l) (d,f,())).bind λ(i,_)=>some (.inl (aZ d,i,())) else some (.inr (f,()))) (aZ e,h,())).bind λ(j,_)=>some (j,())
def AA:(j5×Int×Unit×Unit)->Option jb:=λ(g,b,_,_)=>(loop (σ:=Dz) (ρ:=qm) (λ(c,a,d,_)=>cond (decide (a<=b)) ((ux (d,c,a,(),())).bind λ(l,_)=>some (.inl (a,ax (a+20),l,()))) (some (.inr (c,d,())))) (0,20,g,())).bind λ(e,j,_)=>(ux (j,e,b,(),())).bind λ(k,_)=>(loop (σ:=qm) (ρ:=jb) (λ(f,h,_)=>cond (decide (f<b)) none (some (.inr (h,())))) (20,k,())).bind λ(i,_)=>some (i,())
def Az:(j5×Unit×Unit)->Option jb:=λ(a,_,_)=>(AA (a,au a,(),())).bind λ(b,_)=>some (b,())
def xE:jb->Option jb:=λ(a,_)=>(Av (a,())).bind λ(c,_)=>(Az (c,(),())).bind λ(b,_)=>some (b,())
def xC:Dz->Option mN:=λ(s,e,o,_)=>(e6 (aZ e) (aZ e)).bind λr=>(xE (o,())).bind λ(i,_)=>(loop (σ:=(Int×bF×bF×j5×Unit)) (ρ:=(bF×bF×Unit)) (λ(f,k,a,l,_)=>bif decide (f<au i) then rd l f λb=>(dd ((a.2.2.2.1).length+([b.1]).length)).bind λ_=>(dd ((a.2.2.2.2.1).length+([b.2.2.1]).length)).bind λ_=>(bL (((a.1,(a.2.1,(a.2.2.1,((a.2.2.2.1++[b.1]),a.2.2.2.2)))).1,((a.1,(a.2.1,(a.2.2.1,((a.2.2.2.1++[b.1]),a.2.2.2.2)))).2.1,((a.1,(a.2.1,(a.2.2.1,((a.2.2.2.1++[b.1]),a.2.2.2.2)))).2.2.1,((a.1,(a.2.1,(a.2.2.1,((a.2.2.2.1++[b.1]),a.2.2.2.2)))).2.2.2.1,(((a.1,(a.2.1,(a.2.2.1,((a.2.2.2.1++[b.1]),a.2.2.2.2)))).2.2.2.2.1++[b.2.2.1]),(a.1,(a.2.1,(a.2.2.1,((a.2.2.2.1++[b.1]),a.2.2.2.2)))).2.2.2.2.2))))).2.2.1).length (aZ b.2.1)).bind λn=>(bC ((a.1,(a.2.1,(a.2.2.1,((a.2.2.2.1++[b.1]),a.2.2.2.2)))).1,((a.1,(a.2.1,(a.2.2.1,((a.2.2.2.1++[b.1]),a.2.2.2.2)))).2.1,((a.1,(a.2.1,(a.2.2.1,((a.2.2.2.1++[b.1]),a.2.2.2.2)))).2.2.1,((a.1,(a.2.1,(a.2.2.1,((a.2.2.2.1++[b.1]),a.2.2.2.2)))).2.2.2.1,(((a.1,(a.2.1,(a.2.2.1,((a.2.2.2.1++[b.1]),a.2.2.2.2)))).2.2.2.2.1++[b.2.2.1]),(a.1,(a.2.1,(a.2.2.1,((a.2.2.2.1++[b.1]),a.2.2.2.2)))).2.2.2.2.2))))).2.2.1 n λm=>some m).bind λu=>
 (bL (((a.1,(a.2.1,(a.2.2.1,((a.2.2.2.1++[b.1]),a.2.2.2.2)))).1,((a.1,(a.2.1,(a.2.2.1,((a.2.2.2.1++[b.1]),a.2.2.2.2)))).2.1,((a.1,(a.2.1,(a.2.2.1,((a.2.2.2.1++[b.1]),a.2.2.2.2)))).2.2.1,((a.1,(a.2.1,(a.2.2.1,((a.2.2.2.1++[b.1]),a.2.2.2.2)))).2.2.2.1,(((a.1,(a.2.1,(a.2.2.1,((a.2.2.2.1++[b.1]),a.2.2.2.2)))).2.2.2.2.1++[b.2.2.1]),(a.1,(a.2.1,(a.2.2.1,((a.2.2.2.1++[b.1]),a.2.2.2.2)))).2.2.2.2.2))))).2.2.1).length (aZ b.2.1)).bind λg=>((((bC ((a.1,(a.2.1,(a.2.2.1,((a.2.2.2.1++[b.1]),a.2.2.2.2)))).1,((a.1,(a.2.1,(a.2.2.1,((a.2.2.2.1++[b.1]),a.2.2.2.2)))).2.1,((a.1,(a.2.1,(a.2.2.1,((a.2.2.2.1++[b.1]),a.2.2.2.2)))).2.2.1,((a.1,(a.2.1,(a.2.2.1,((a.2.2.2.1++[b.1]),a.2.2.2.2)))).2.2.2.1,(((a.1,(a.2.1,(a.2.2.1,((a.2.2.2.1++[b.1]),a.2.2.2.2)))).2.2.2.2.1++[b.2.2.1]),(a.1,(a.2.1,(a.2.2.1,((a.2.2.2.1++[b.1]),a.2.2.2.2)))).2.2.2.2.2))))).2.2.1 g λ_=>some ((((a.1,(a.2.1,(a.2.2.1,((a.2.2.2.1++[b.1]),a.2.2.2.2)))).1,((a.1,(a.2.1,(a.2.2.1,((a.2.2.2.1++[b.1]),a.2.2.2.2)))).2.1,((a.1,(a.2.1,(a.2.2.1,((a.2.2.2.1++[b.1]),a.2.2.2.2)))).2.2.1,((a.1,(a.2.1,(a.2.2.1,((a.2.2.2.1++[b.1]),a.2.2.2.2)))).2.2.2.1,(((a.1,(a.2.1,(a.2.2.1,((a.2.2.2.1++[b.1]),a.2.2.2.2)))).2.2.2.2.1++[b.2.2.1]),(a.1,(a.2.1,(a.2.2.1,((a.2.2.2.1++[b.1]),a.2.2.2.2)))).2.2.2.2.2))))).2.2.1).set g (aZ u))).map λx=>(x,((a.1,(a.2.1,(a.2.2.1,((a.2.2.2.1++[b.1]),a.2.2.2.2)))).1,((a.1,(a.2.1,(a.2.2.1,((a.2.2.2.1++[b.1]),a.2.2.2.2)))).2.1,((a.1,(a.2.1,(a.2.2.1,((a.2.2.2.1++[b.1]),a.2.2.2.2)))).2.2.1,((a.1,(a.2.1,(a.2.2.1,((a.2.2.2.1++[b.1]),a.2.2.2.2)))).2.2.2.1,(((a.1,(a.2.1,(a.2.2.1,((a.2.2.2.1++[b.1]),a.2.2.2.2)))).2.2.2.2.1++[b.2.2.1]),(a.1,(a.2.1,(a.2.2.1,((a.2.2.2.1++[b.1]),a.2.2.2.2)))).2.2.2.2.2))))).2.2.2)).map λy=>(((a.1,(a.2.1,(a.2.2.1,((a.2.2.2.1++[b.1]),a.2.2.2.2)))).1,((a.1,(a.2.1,(a.2.2.1,((a.2.2.2.1++[b.1]),a.2.2.2.2)))).2.1,((a.1,(a.2.1,(a.2.2.1,((a.2.2.2.1++[b.1]),a.2.2.2.2)))).2.2.1,((a.1,(a.2.1,(a.2.2.1,((a.2.2.2.1++[b.1]),a.2.2.2.2)))).2.2.2.1,(((a.1,(a.2.1,(a.2.2.1,((a.2.2.2.1++[b.1]),a.2.2.2.2)))).2.2.2.2.1++[b.2.2.1]),(a.1,(a.2.1,(a.2.2.1,((a.2.2.2.1++[b.1]),a.2.2.2.2)))).2.2.2.2.2))))).2.1,y)).map λz=>(((a.1,(a.2.1,(a.2.2.1,((a.2.2.2.1++[b.1]),a.2.2.2.2)))).1,((a.1,(a.2.1,(a.2.2.1,((a.2.2.2.1++[b.1]),a.2.2.2.2)))).2.1,((a.1,(a.2.1,(a.2.2.1,((a.2.2.2.1++[b.1]),a.2.2.2.2)))).2.2.1,((a.1,(a.2.1,(a.2.2.1,((a.2.2.2.1++[b.1]),a.2.2.2.2)))).2.2.2.1,(((a.1,(a.2.1,(a.2.2.1,((a.2.2.2.1++[b.1]),a.2.2.2.2)))).2.2.2.2.1++[b.2.2.1]),(a.1,(a.2.1,(a.2.2.1,((a.2.2.2.1++[b.1]),a.2.2.2.2)))).2.2.2.2.2))))).1,z)).bind λA=>
 some (.inl (aZ f,k,A,l,())) else some (.inr (k,a,()))) (0,((0:Int),((0:Int),([],([],([],()))))),(s,(e,(List.replicate r (0:Int),(([]:a7),(([]:a7),()))))),i,())).bind λ(t,p,_)=>(loop (σ:=(Int×bF×bF×Unit)) (ρ:=(bF×bF×Unit)) (λ(d,j,c,_)=>cond (decide (d<e)) (rd c.2.2.1 (aZ d) λv=>rd c.2.2.1 d λw=>(bL (c.2.2.1).length (aZ d)).bind λh=>((((bC c.2.2.1 h λ_=>some ((c.2.2.1).set h (ax (v+w)))).map λB=>(B,c.2.2.2)).map λC=>(c.2.1,C)).map λD=>(c.1,D)).bind λE=>some (.inl (aZ d,j,E,()))) (some (.inr (j,c,())))) (0,t,p,())).bind λ(_,q,_)=>some (q,())
def xB:mN->Option (bF×Int×Unit):=λ(a,_)=>(o3 (a,())).bind λ(aP,_)=>(cond (aP !=0) (some (((0:Int),((0:Int),(([]:a7),(([]:a7),(([]:a7),()))))),aP,())) ((uu (a,())).bind λ(g,_)=>(loop (σ:=(Int×bF×j5×j5×Unit)) (ρ:=(bF×j5×Unit)) (λ(d,e,b,f,_)=>cond (decide (d<au g)) (Option.bind (α:=(bF×j5×j5×Unit)) (rd f d λc=>cond (decide (c.1>=c.2.1)) ((dd (b.length+([c]).length)).bind λ_=>some (e,(b++[c]),f,())) (some (e,b,f,()))) λ(k,h,l,_)=>some (.inl (aZ d,k,h,l,()))) (some (.inr (e,b,())))) (0,((0:Int),((0:Int),([],([],([],()))))),[],g,())).bind λ(_,i,_)=>(xC (a.1,a.2.1,i,())).bind λ(j,_)=>some (j,0,())))
def xA:mN->Option jb:=λ(a,_)=>(o3 (a,())).bind λ(aP,_)=>(cond (aP !=0) (some ([],())) ((uu (a,())).bind λ(b,_)=>some (b,())))
def ug:mN->Option ((List a7×Unit)×Int×Unit):=λ(a,_)=>(o3 (a,())).bind λ(c,_)=>(cond (c !=0) (some ((([]:List a7),()),c,())) (cond (a.1 !=a.2.1) (some ((([]:List a7),()),5,())) ((uh (a.2.1,())).bind λ(j,_)=>(xA (a,())).bind λ(aP,_)=>(loop (σ:=(Int×(List a7×Unit)×List ju×j5×Unit)) (ρ:=((List a7×Unit)×List ju×Unit)) (λ(b,d,e,f,_)=>cond (decide (b<au aP)) (rd f b λg=>(uk (e,g.1,g.2.1,())).bind λ(h,_)=>some (.inl (aZ b,d,h,f,()))) (some (.inr (d,e,())))) (0,([],()),j,aP,())).bind λ(_,k,_)=>(uj (k,())).bind λ(i,_)=>some (i,0,()))))
def qE:(bF×a7×Unit)->Option (Option lf×Int×Unit):=λ(a,q,_)=>(o3 (a,())).bind λ(r,_)=>(bif r !=0 then some (none,r,()) else bif a.1 !=a.2.1 then some (none,5,()) else(x9 (q,a.2.1,())).bind λ(s,E,_)=>bif !E then some (none,90,()) else(xB (a,())).bind λ(F,_,_)=>(ug (F,())).bind λ(G,_,_)=>(ui (G,q,())).bind λ(t,_,_)=>(e6 a.2.1 a.2.1).bind λp=>(loop (σ:=(Int×bF×lf×Unit)) (ρ:=(bF×lf×Unit)) (λ(j,k,c,_)=>cond (decide (j<au ((a.2.1,(t,(List.replicate p (none:Option (List (Int×bz)×Nat)),()))).2.2.1))) ((bL (c.2.2.1).length j).bind λn=>((((bC c.2.2.1 n λ_=>some ((c.2.2.1).set n (some ([],0)))).map λL=>(L,c.2.2.2)).map λM=>(c.2.1,M)).map λN=>(c.1,N)).bind λO=>some (.inl (aZ j,k,O,()))) (some (.inr (k,c,())))) (0,a,(a.2.1,(t,(List.replicate p (none:Option (List (Int×bz)×Nat)),()))),())).bind λ(l,z,_)=>
 (loop (σ:=(Int×bF×lf×Unit)) (ρ:=(lf×Unit)) (λ(e,m,o,_)=>bif decide (e<l.2.1) then(aL m.2.2.1 e).bind λI=>(loop (σ:=(Int×bF×lf×Unit)) (ρ:=(bF×lf×Unit)) (λ(f,d,b,_)=>(aL d.2.2.1 (aZ e)).bind λJ=>cond (decide (f<J)) (Option.bind (α:=(bF×lf×Unit)) ((aL d.2.2.2.1 f).bind λu=>cond (decide (u>=e)) ((aL s u).bind λg=>(aL s e).bind λh=>(bL (b.2.2.1).length (if h<g then h else g)).bind λi=>(aL d.2.2.2.2.1 f).bind λK=>(o1 (K,())).bind λ(H,_)=>(bC b.2.2.1 i λx=>some x).bind λC=>(n4 C (if h>g then h else g) H).bind λD=>((((bC b.2.2.1 i λ_=>some ((b.2.2.1).set i D)).map λP=>(P,b.2.2.2)).map λQ=>(b.2.1,Q)).map λR=>(b.1,R)).bind λS=>some (d,S,())) (some (d,b,()))) λ(v,A,_)=>some (.inl (aZ f,v,A,()))) (some (.inr (d,b,())))) (I,m,o,())).bind λ(w,B,_)=>
 some (.inl (aZ e,w,B,())) else some (.inr (o,()))) (0,l,z,())).bind λ(y,_)=>some (some y,0,()))
def wT:(Option lf×Unit)->Option (jx×Unit):=λ(d,_)=>d.bind λx=>(x6 (x.2.1,())).bind λ(e,_,_)=>d.bind λk=>(e6 k.1 k.1).bind λt=>d.bind λl=>(e6 l.1 l.1).bind λu=>d.bind λm=>(e6 m.1 m.1).bind λs=>(loop (σ:=(Int×jx×Unit)) (ρ:=(jx×Unit)) (λ(b,h,_)=>bif decide (b<au e) then(aL e b).bind λj=>(loop (σ:=(Int×jx×Unit)) (ρ:=(jx×Unit)) (λ(f,a,_)=>bif decide (f<au j) then Option.bind (α:=(jx×Unit)) ((aL j f).bind λg=>bif decide (g>b) then(bL (a.2.2.2.1).length g).bind λi=>(bC a.2.2.2.1 i λq=>some q).bind λv=>(dd (v.length+([b]).length)).bind λ_=>(bL (a.2.2.2.1).length g).bind λc=>bif Nat.beq i c&&true then(bC a.2.2.2.1 c λr=>some r).bind λw=>(((((bC a.2.2.2.1 c λ_=>some ((a.2.2.2.1).set c (w++[b]))).map λy=>(y,a.2.2.2.2)).map λz=>(a.2.2.1,z)).map λA=>(a.2.1,A)).map λB=>(a.1,B)).bind λC=>
 some (C,()) else none else some (a,())) λ(n,_)=>some (.inl (aZ f,n,())) else some (.inr (a,()))) (0,h,())).bind λ(o,_)=>some (.inl (aZ b,o,())) else some (.inr (h,()))) (0,(e,(List.replicate t [],(List.replicate u (none:Option (List (Int×bz)×Nat)),(List.replicate s [],())))),())).bind λ(p,_)=>some (p,())
def x8:(Option lf×Int×Int×Unit)->Option es:=λ(c,a,b,_)=>c.bind λd=>(aL d.2.2.1 (if b<a then b else a)).bind λe=>some (((hB (α:=bz) e (if b>a then b else a)).getD (false,((false,([],())),((0:Int),())))),())
def ua:(Option jx×Option lf×Int×Int×Unit)->Option es:=λ(b,k,c,d,_)=>(x8 (k,c,d,())).bind λ(n,_)=>b.bind λu=>(aL u.2.2.2.1 d).bind λj=>(loop (σ:=(Int×bz×kB×Unit)) (ρ:=(bz×kB×Unit)) (λ(e,f,a,_)=>cond (decide (e<au j)) (Option.bind (α:=(bz×kB×Unit)) ((aL j e).bind λh=>b.bind λr=>(aL r.2.2.1 h).bind λi=>cond ((hB (α:=bz) i c).isSome) (b.bind λs=>(aL s.2.2.1 h).bind λt=>(w2 (((hB (α:=bz) i c).getD (false,((false,([],())),((0:Int),())))),((hB (α:=bz) t d).getD (false,((false,([],())),((0:Int),())))),())).bind λ(l,_)=>(w3 (l,())).bind λ(g,_)=>(dd (a.length+([g]).length)).bind λ_=>some (f,(a++[g]),())) (some (f,a,()))) λ(o,p,_)=>some (.inl (aZ e,o,p,()))) (some (.inr (f,a,())))) (0,(false,((false,([],())),((0:Int),()))),[n],())).bind λ(_,q,_)=>(w8 (q,())).bind λ(m,_)=>
 some (m,())
def wU:(jx×Option lf×Int×Unit)->Option (jx×Int×Unit):=λ(c,u,b,_)=>(ua (some c,u,b,b,())).bind λ(aP,_)=>(nK (aP,())).bind λ(M,_)=>(bif decide (M<=0) then some (c,231,()) else(xf (aP,0,())).bind λ(h,_)=>(xd (h,())).bind λ(N,_)=>bif N==0 then some (c,231,()) else(o1 (h,())).bind λ(O,_)=>(n4 (some ([],0)) b O).bind λE=>(bL (c.2.1).length b).bind λp=>(((bC c.2.1 p λ_=>some ((c.2.1).set p [h])).map λR=>(R,c.2.2)).map λS=>(c.1,S)).bind λe=>(bL (e.2.2.1).length b).bind λq=>((((bC e.2.2.1 q λ_=>some ((e.2.2.1).set q E)).map λT=>(T,e.2.2.2)).map λU=>(e.2.1,U)).map λV=>(e.1,V)).bind λo=>(o0 (h,())).bind λ(H,_)=>bif !H then some (o,233,()) else((aL o.1 b).bind λl=>((fD 1).bind λs=>(some l.length).bind λt=>(gg s t l.length).map λ_=>(s,t)).bind λj=>
 (loop (σ:=(Int×jx×Unit)) (ρ:=((jx×Unit)⊕(jx×Int×Unit))) (λ(n,a,_)=>bif decide (n<au ((l.take j.2).drop j.1)) then(aL ((l.take j.2).drop j.1) n).bind λm=>(ua (some a,u,m,b,())).bind λ(I,_)=>(o1 (h,())).bind λ(J,_)=>(xe (I,J,0,())).bind λ(k,_)=>(o0 (k,())).bind λ(K,_)=>bif !K then some (.inr (.inr (a,233,()))) else(bL (a.2.2.1).length b).bind λd=>(bL (a.2.1).length b).bind λr=>(bC a.2.1 r λx=>some x).bind λP=>(dd (P.length+([k]).length)).bind λ_=>(o1 (k,())).bind λ(L,_)=>(bL (a.2.1).length b).bind λi=>bif Nat.beq r i&&true then(bC a.2.1 i λy=>some y).bind λQ=>(((bC a.2.1 i λ_=>some ((a.2.1).set i (Q++[k]))).map λW=>(W,a.2.2)).map λX=>(a.1,X)).bind λf=>(bC f.2.2.1 d λz=>some z).bind λv=>(n4 v m ((hB (α:=bz) v m).getD (false,((false,([],())),((0:Int),()))))).bind λC=>
 ((((bC f.2.2.1 d λ_=>some ((f.2.2.1).set d C)).map λY=>(Y,f.2.2.2)).map λZ=>(f.2.1,Z)).map λad=>(f.1,ad)).bind λg=>cond (Nat.beq d d&&true) ((bC g.2.2.1 d λA=>some A).bind λB=>(n4 B m L).bind λD=>((((bC g.2.2.1 d λ_=>some ((g.2.2.1).set d D)).map λam=>(am,g.2.2.2)).map λan=>(g.2.1,an)).map λap=>(g.1,ap)).bind λav=>some (.inl (aZ n,av,()))) none else none else some (.inr (.inl (a,())))) (0,o,())).bind λF=>match F with
 |.inl (w,_)=>(some (w,0,()))
 |.inr G=>some G))
def xI:ei->Option ei:=λ(a,_)=>lz a.length (some ([],())) ((dd (([]:a7).length+a.length)).bind λ_=>some (([]++a),()))
def wV:(Option jx×a7×Unit)->Option (gI×Unit):=λ(e,h,_)=>(xI (h,())).bind λ(i,_)=>e.bind λk=>(loop (σ:=(Int×gI×gI×Unit)) (ρ:=(gI×gI×Unit)) (λ(d,f,a,_)=>bif decide (d<au k.1) then e.bind λl=>(aL l.1 d).bind λb=>(dd ((a.2.2.1).length+b.length)).bind λ_=>e.bind λj=>(aL j.2.1 d).bind λc=>(dd (((a.1,(a.2.1,((a.2.2.1++b),a.2.2.2))).2.2.2.1).length+c.length)).bind λ_=>(dd ((((a.1,(a.2.1,((a.2.2.1++b),a.2.2.2))).1,((a.1,(a.2.1,((a.2.2.1++b),a.2.2.2))).2.1,((a.1,(a.2.1,((a.2.2.1++b),a.2.2.2))).2.2.1,(((a.1,(a.2.1,((a.2.2.1++b),a.2.2.2))).2.2.2.1++c),(a.1,(a.2.1,((a.2.2.1++b),a.2.2.2))).2.2.2.2)))).2.1).length+([au (((a.1,(a.2.1,((a.2.2.1++b),a.2.2.2))).1,((a.1,(a.2.1,((a.2.2.1++b),a.2.2.2))).2.1,((a.1,(a.2.1,((a.2.2.1++b),a.2.2.2))).2.2.1,(((a.1,(a.2.1,((a.2.2.1++b),a.2.2.2))).2.2.2.1++c),(a.1,(a.2.1,((a.2.2.1++b),a.2.2.2))).2.2.2.2)))).2.2.1)]).length)).bind λ_=>
 some (.inl (aZ d,f,(((a.1,(a.2.1,((a.2.2.1++b),a.2.2.2))).1,((a.1,(a.2.1,((a.2.2.1++b),a.2.2.2))).2.1,((a.1,(a.2.1,((a.2.2.1++b),a.2.2.2))).2.2.1,(((a.1,(a.2.1,((a.2.2.1++b),a.2.2.2))).2.2.2.1++c),(a.1,(a.2.1,((a.2.2.1++b),a.2.2.2))).2.2.2.2)))).1,((((a.1,(a.2.1,((a.2.2.1++b),a.2.2.2))).1,((a.1,(a.2.1,((a.2.2.1++b),a.2.2.2))).2.1,((a.1,(a.2.1,((a.2.2.1++b),a.2.2.2))).2.2.1,(((a.1,(a.2.1,((a.2.2.1++b),a.2.2.2))).2.2.2.1++c),(a.1,(a.2.1,((a.2.2.1++b),a.2.2.2))).2.2.2.2)))).2.1++[au (((a.1,(a.2.1,((a.2.2.1++b),a.2.2.2))).1,((a.1,(a.2.1,((a.2.2.1++b),a.2.2.2))).2.1,((a.1,(a.2.1,((a.2.2.1++b),a.2.2.2))).2.2.1,(((a.1,(a.2.1,((a.2.2.1++b),a.2.2.2))).2.2.2.1++c),(a.1,(a.2.1,((a.2.2.1++b),a.2.2.2))).2.2.2.2)))).2.2.1)]),((a.1,(a.2.1,((a.2.2.1++b),a.2.2.2))).1,((a.1,(a.2.1,((a.2.2.1++b),a.2.2.2))).2.1,((a.1,(a.2.1,((a.2.2.1++b),a.2.2.2))).2.2.1,(((a.1,(a.2.1,((a.2.2.1++b),a.2.2.2))).2.2.2.1++c),(a.1,(a.2.1,((a.2.2.1++b),a.2.2.2))).2.2.2.2)))).2.2)),())) else
 some (.inr (f,a,()))) (0,([],([],([],([],())))),(i,([0],(([]:a7),(([]:a7),())))),())).bind λ(_,g,_)=>some (g,())
def oY:(bF×a7×Unit)->Option wB:=λ(g,e,_)=>(qE (g,e,())).bind λ(b,aP,_)=>(bif aP !=0 then some ((([]:a7),(([]:a7),(([]:a7),(([]:a7),())))),0,aP,()) else((wT (b,())).bind λ(m,_)=>b.bind λo=>(loop (σ:=(Int×gI×jx×Unit)) (ρ:=((gI×jx×Unit)⊕wB)) (λ(c,f,d,_)=>cond (decide (c<o.1)) ((wU (d,b,c,())).bind λ(i,a,_)=>cond (a==0) (some (.inl (aZ c,f,i,()))) (cond (a==231) (some (.inr (.inr ((([]:a7),(([]:a7),(([]:a7),(([]:a7),())))),c,a,())))) (some (.inr (.inr ((([]:a7),(([]:a7),(([]:a7),(([]:a7),())))),0,a,())))))) (some (.inr (.inl (f,d,()))))) (0,([],([],([],([],())))),m,())).bind λj=>match j with
 |.inl (_,h,_)=>((wV (some h,e,())).bind λ(l,_)=>b.bind λn=>some (l,n.1,0,()))
 |.inr k=>some k))
def AC:jv->Option eg:=λ(b,c,_)=>(bif au b !=au c then some (false,()) else((loop (σ:=ba) (ρ:=hL) (λ(a,_)=>cond (decide (a<au b)) ((aL b a).bind λf=>(aL c a).bind λg=>cond (f !=g) (some (.inr (.inr (false,())))) (some (.inl (aZ a,())))) (some (.inr (.inl ())))) (0,())).bind λd=>match d with
 |.inl _=>(some (true,()))
 |.inr e=>some e))
def uC:Unit->Option eg:=λ_=>(qD (4,0,())).bind λ(b,_)=>(qD (2,0,())).bind λ(a,_)=>(qD (5,0,())).bind λ(c,_)=>(oY ((2,(2,([0,2,3],([0,1,1],([b,a,c],()))))),[0,1],())).bind λ(aP,d,e,_)=>(cond ((e==0)==true) (cond ((d==2)==true) ((xQ (aP.2.1,[0,2,3],())).bind λ(f,_)=>cond (f==true) ((AC (aP.2.2.2.1,[a,4607182418800017408,a],())).bind λ(g,_)=>some (g,())) (some (false,()))) (some (false,()))) (some (false,())))
def o4:lg->Option ba:=λ(a,b,_)=>(gj (aA a) (aA b)).bind λc=>some (ax c,())
def uB:lX->Option ba:=λ(b,a,_)=>Option.bind (α:=ba) (cond (decide (au b>0)) ((o4 (a,au b,())).bind λ(e,_)=>(aL b e).bind λf=>some (p0 IntKind.u64 (aA (aA (aZ a)*11400714819323198485)) f,())) (some (aA (aA (aZ a)*11400714819323198485),()))) λ(c,_)=>(db IntKind.u64 c 31).bind λd=>(db IntKind.u64 (aA (p0 IntKind.u64 c d*13787848793156543929)) 29).bind λg=>some (p0 IntKind.u64 (aA (p0 IntKind.u64 c d*13787848793156543929)) g,())
def AB:ba->Option ba:=λ(b,_)=>(gj b 19).bind λc=>(qD (ax (ax c-9),0,())).bind λ(a,_)=>some (a,())
def sh:lg->Option ba:=λ(a,e,_)=>(o4 (e,4,())).bind λ(b,_)=>(cond (b==1) ((db IntKind.u64 a 52).bind λf=>(fL IntKind.u64 (aA (1019+bT IntKind.u64 f 7)) 52).bind λg=>some (dP IntKind.u64 (bT IntKind.u64 a 9227875636482146303) g,())) (cond (b==2) ((db IntKind.u64 a 8).bind λh=>(gj h 81).bind λi=>(fL IntKind.u64 (aA (983+i)) 52).bind λj=>some (dP IntKind.u64 (bT IntKind.u64 a 9225623836668461056) j,())) (cond (b==3) ((sn (a,())).bind λ(d,_)=>cond (!d) (some (0,())) (some (a,()))) ((AB (a,())).bind λ(c,_)=>some (c,())))))
def sg:(a7×Int×Int×Int×Unit)->Option mN:=λ(n,e,g,q,_)=>(loop (σ:=(Int×bF×bF×Unit)) (ρ:=(bF×bF×Unit)) (λ(d,k,h,_)=>bif decide (d<g) then(loop (σ:=(Int×bF×bF×Unit)) (ρ:=(bF×bF×Unit)) (λ(b,f,a,_)=>bif decide (b<e) then Option.bind (α:=(bF×bF×Unit)) ((uB (n,ax (ax (100+ax (d*e))+b),())).bind λ(i,_)=>(db IntKind.u64 i 40).bind λr=>(gj r 3).bind λs=>bif decide (s>0) then(dd ((a.2.2.2.1).length+([b]).length)).bind λ_=>(sh (i,q,())).bind λ(j,_)=>(dd (((a.1,(a.2.1,(a.2.2.1,((a.2.2.2.1++[b]),a.2.2.2.2)))).2.2.2.2.1).length+([j]).length)).bind λ_=>some (f,((a.1,(a.2.1,(a.2.2.1,((a.2.2.2.1++[b]),a.2.2.2.2)))).1,((a.1,(a.2.1,(a.2.2.1,((a.2.2.2.1++[b]),a.2.2.2.2)))).2.1,((a.1,(a.2.1,(a.2.2.1,((a.2.2.2.1++[b]),a.2.2.2.2)))).2.2.1,((a.1,(a.2.1,(a.2.2.1,((a.2.2.2.1++[b]),a.2.2.2.2)))).2.2.2.1,(((a.1,(a.2.1,(a.2.2.1,((a.2.2.2.1++[b]),a.2.2.2.2)))).2.2.2.2.1++[j]),(a.1,(a.2.1,(a.2.2.1,((a.2.2.2.1++[b]),a.2.2.2.2)))).2.2.2.2.2))))),()) else
 some (f,a,())) λ(o,l,_)=>some (.inl (aZ b,o,l,())) else some (.inr (f,a,()))) (0,k,h,())).bind λ(p,c,_)=>(dd ((c.2.2.1).length+([au c.2.2.2.1]).length)).bind λ_=>some (.inl (aZ d,p,(c.1,(c.2.1,((c.2.2.1++[au c.2.2.2.1]),c.2.2.2))),())) else some (.inr (k,h,()))) (0,((0:Int),((0:Int),([],([],([],()))))),(e,(g,([0],(([]:a7),(([]:a7),()))))),())).bind λ(_,m,_)=>some (m,())
def x5:ei->Option eg:=λ(b,_)=>(loop (σ:=ba) (ρ:=hL) (λ(a,_)=>cond (decide (a<au b)) ((aL b a).bind λe=>(sn (e,())).bind λ(aP,_)=>cond (!aP) (some (.inr (.inr (false,())))) (some (.inl (aZ a,())))) (some (.inr (.inl ())))) (0,())).bind λc=>match c with
 |.inl _=>(some (true,()))
 |.inr d=>some d
def uP:mN->Option ba:=λ(a,_)=>Option.bind (α:=Unit⊕ba) (cond (decide (a.1<0)==false) (cond (decide (a.1>200)==false) (cond (decide (a.2.1<0)==false) (cond (decide (a.2.1>200)==false) (cond (decide (au a.2.2.2.1>10000)) (some (.inr (6,()))) (some (.inl ()))) (some (.inr (6,())))) (some (.inr (6,())))) (some (.inr (6,())))) (some (.inr (6,())))) λb=>match b with
 |.inl _=>(Option.bind (α:=Unit⊕ba) (cond ((au a.2.2.2.2.1 !=au a.2.2.2.1)==false) (cond ((au a.2.2.1 !=aZ a.2.1)==false) ((aL a.2.2.1 0).bind λn=>cond ((n !=0)==false) ((aL a.2.2.1 a.2.1).bind λo=>cond (o !=au a.2.2.2.1) (some (.inr (1,()))) (some (.inl ()))) (some (.inr (1,())))) (some (.inr (1,())))) (some (.inr (1,())))) λb=>match b with
 |.inl _=>((loop (σ:=ba) (ρ:=j4) (λ(f,_)=>cond (decide (f<a.2.1)) ((aL a.2.2.1 f).bind λp=>(aL a.2.2.1 (aZ f)).bind λq=>cond (decide (p>q)) (some (.inr (.inr (1,())))) (some (.inl (aZ f,())))) (some (.inr (.inl ())))) (0,())).bind λb=>match b with
 |.inl _=>((loop (σ:=ba) (ρ:=j4) (λ(e,_)=>bif decide (e<a.2.1) then((aL a.2.2.1 e).bind λr=>(loop (σ:=ba) (ρ:=(Unit⊕(ba⊕j4))) (λ(d,_)=>(aL a.2.2.1 (aZ e)).bind λh=>bif decide (d<h) then(Option.bind (α:=Unit⊕(ba⊕(Unit⊕(ba⊕j4)))) ((aL a.2.2.2.1 d).bind λi=>cond (decide (i<0)==false) ((aL a.2.2.2.1 d).bind λj=>cond (decide (j>=a.1)==false) ((aL a.2.2.1 e).bind λk=>cond (decide (d>k)==true) ((aL a.2.2.2.1 d).bind λl=>(aL a.2.2.2.1 (ax (d-1))).bind λm=>cond (decide (l<=m)) (some (.inr (.inr (.inr (.inr (.inr (1,()))))))) (some (.inl ()))) (some (.inl ()))) (some (.inr (.inr (.inr (.inr (.inr (1,())))))))) (some (.inr (.inr (.inr (.inr (.inr (1,())))))))) λb=>match b with
 |.inl _=>(some (.inl (aZ d,())))
 |.inr c=>some c) else some (.inr (.inl ()))) (r,())).bind λb=>match b with
 |.inl _=>(some (.inl (aZ e,())))
 |.inr c=>some c) else some (.inr (.inl ()))) (0,())).bind λb=>match b with
 |.inl _=>((x5 (a.2.2.2.2.1,())).bind λ(g,_)=>cond (!g) (some (4,())) (some (0,())))
 |.inr c=>some c)
 |.inr c=>some c)
 |.inr c=>some c)
 |.inr c=>some c
def nR:(bF×Int×Int×Unit)->Option ba:=λ(a,f,b,_)=>Option.bind (α:=Unit⊕ba) ((uP (a,())).bind λ(aP,_)=>cond ((aP !=0)==false) (cond (decide (b<0)==false) (cond (decide (b>=a.2.1)) (some (.inr (0,()))) (some (.inl ()))) (some (.inr (0,())))) (some (.inr (0,())))) λd=>match d with
 |.inl _=>((aL a.2.2.1 b).bind λg=>(loop (σ:=ba) (ρ:=j4) (λ(c,_)=>(aL a.2.2.1 (aZ b)).bind λh=>cond (decide (c<h)) ((aL a.2.2.2.1 c).bind λi=>cond (i==f) ((aL a.2.2.2.2.1 c).bind λj=>some (.inr (.inr (j,())))) (some (.inl (aZ c,())))) (some (.inr (.inl ())))) (g,())).bind λd=>match d with
 |.inl _=>(some (0,()))
 |.inr e=>some e)
 |.inr e=>some e
def uQ:(bF×Int×Int×Unit)->Option eg:=λ(a,c,b,_)=>Option.bind (α:=Unit⊕eg) (cond (decide (c<0)==false) (cond (decide (c>=a.1)==false) (cond (decide (b<0)==false) (cond (decide (b>=a.2.1)) (some (.inr (false,()))) (some (.inl ()))) (some (.inr (false,())))) (some (.inr (false,())))) (some (.inr (false,())))) λe=>match e with
 |.inl _=>((aL a.2.2.1 b).bind λg=>(loop (σ:=ba) (ρ:=hL) (λ(d,_)=>(aL a.2.2.1 (aZ b)).bind λh=>cond (decide (d<h)) ((aL a.2.2.2.1 d).bind λi=>cond (i==c) (some (.inr (.inr (true,())))) (some (.inl (aZ d,())))) (some (.inr (.inl ())))) (g,())).bind λe=>match e with
 |.inl _=>(some (false,()))
 |.inr f=>some f)
 |.inr f=>some f
def uy:(a7×Int×Int×Unit)->Option mN:=λ(G,f,N,_)=>(o4 (N,3,())).bind λ(aP,_)=>(sg (G,f,f,aP,())).bind λ(F,_)=>(loop (σ:=(Int×bF×bF×bF×Unit)) (ρ:=(bF×bF×Unit)) (λ(h,r,w,n,_)=>bif decide (h<f) then(loop (σ:=(Int×bF×bF×bF×Unit)) (ρ:=(bF×bF×bF×Unit)) (λ(c,j,g,a,_)=>bif decide (c<f) then Option.bind (α:=(bF×bF×bF×Unit)) (bif c==h then(uK (1,())).bind λ(A,_)=>(loop (σ:=(Int×bF×bF×bF×kB×Unit)) (ρ:=(bF×bF×bF×kB×Unit)) (λ(d,m,i,l,k,_)=>bif decide (d<f) then Option.bind (α:=(bF×bF×bF×kB×Unit)) (cond (d !=c) ((nR (i,(if d>c then d else c),(if d<c then d else c),())).bind λ(B,_)=>(nP (B,())).bind λ(C,_)=>(sk (C,())).bind λ(o,_)=>(dd (k.length+([o]).length)).bind λ_=>some (m,i,l,(k++[o]),())) (some (m,i,l,k,()))) λ(H,s,x,I,_)=>
 some (.inl (aZ d,H,s,x,I,())) else some (.inr (m,i,l,k,()))) (0,j,g,a,[A],())).bind λ(J,t,b,K,_)=>(dd ((b.2.2.2.1).length+([c]).length)).bind λ_=>(sl (K,())).bind λ(D,_)=>(uN (D,2,())).bind λ(p,_)=>(dd (((b.1,(b.2.1,(b.2.2.1,((b.2.2.2.1++[c]),b.2.2.2.2)))).2.2.2.2.1).length+([p]).length)).bind λ_=>some (J,t,((b.1,(b.2.1,(b.2.2.1,((b.2.2.2.1++[c]),b.2.2.2.2)))).1,((b.1,(b.2.1,(b.2.2.1,((b.2.2.2.1++[c]),b.2.2.2.2)))).2.1,((b.1,(b.2.1,(b.2.2.1,((b.2.2.2.1++[c]),b.2.2.2.2)))).2.2.1,((b.1,(b.2.1,(b.2.2.1,((b.2.2.2.1++[c]),b.2.2.2.2)))).2.2.2.1,(((b.1,(b.2.1,(b.2.2.1,((b.2.2.2.1++[c]),b.2.2.2.2)))).2.2.2.2.1++[p]),(b.1,(b.2.1,(b.2.2.1,((b.2.2.2.1++[c]),b.2.2.2.2)))).2.2.2.2.2))))),()) else(uQ (g,c,h,())).bind λ(E,_)=>bif E then(dd ((a.2.2.2.1).length+([c]).length)).bind λ_=>(nR (g,c,h,())).bind λ(q,_)=>
 (dd (((a.1,(a.2.1,(a.2.2.1,((a.2.2.2.1++[c]),a.2.2.2.2)))).2.2.2.2.1).length+([q]).length)).bind λ_=>some (j,g,((a.1,(a.2.1,(a.2.2.1,((a.2.2.2.1++[c]),a.2.2.2.2)))).1,((a.1,(a.2.1,(a.2.2.1,((a.2.2.2.1++[c]),a.2.2.2.2)))).2.1,((a.1,(a.2.1,(a.2.2.1,((a.2.2.2.1++[c]),a.2.2.2.2)))).2.2.1,((a.1,(a.2.1,(a.2.2.1,((a.2.2.2.1++[c]),a.2.2.2.2)))).2.2.2.1,(((a.1,(a.2.1,(a.2.2.1,((a.2.2.2.1++[c]),a.2.2.2.2)))).2.2.2.2.1++[q]),(a.1,(a.2.1,(a.2.2.1,((a.2.2.2.1++[c]),a.2.2.2.2)))).2.2.2.2.2))))),()) else some (j,g,a,())) λ(L,u,y,_)=>some (.inl (aZ c,L,u,y,())) else some (.inr (j,g,a,()))) (0,r,w,n,())).bind λ(M,v,e,_)=>(dd ((e.2.2.1).length+([au e.2.2.2.1]).length)).bind λ_=>some (.inl (aZ h,M,v,(e.1,(e.2.1,((e.2.2.1++[au e.2.2.2.1]),e.2.2.2))),())) else some (.inr (r,n,()))) (0,((0:Int),((0:Int),([],([],([],()))))),F,(f,(f,([0],(([]:a7),(([]:a7),()))))),())).bind λ(_,z,_)=>
 some (z,())
def uz:lX->Option ei:=λ(m,j,_)=>(loop (σ:=lX) (ρ:=ei) (λ(a,c,_)=>cond (decide (c<j)) ((uB (m,ax (700+c),())).bind λ(l,_)=>(db IntKind.u64 l 1).bind λn=>(o4 (ax n,aZ c,())).bind λ(i,_)=>((some (0)).bind λg=>(fD i).bind λh=>(gg g h a.length).map λ_=>(g,h)).bind λb=>(dd (([]:a7).length+((a.take b.2).drop b.1).length)).bind λ_=>(dd (([]++((a.take b.2).drop b.1)).length+([c]).length)).bind λ_=>((fD i).bind λe=>(some a.length).bind λf=>(gg e f a.length).map λ_=>(e,f)).bind λd=>(dd ((([]++((a.take b.2).drop b.1))++[c]).length+((a.take d.2).drop d.1).length)).bind λ_=>some (.inl (((([]++((a.take b.2).drop b.1))++[c])++((a.take d.2).drop d.1)),aZ c,()))) (some (.inr (a,())))) ([],0,())).bind λ(k,_)=>some (k,())
def xR:(a7×Int×Int×Bool×Unit)->Option (bF×a7×Unit):=λ(b,e,c,d,_)=>(o4 (e,6,())).bind λ(a,_)=>(cond d ((uy (b,a,c,())).bind λ(f,_)=>(uz (b,a,())).bind λ(g,_)=>some (f,g,())) ((sg (b,a,a,c,())).bind λ(h,_)=>(uz (b,a,())).bind λ(i,_)=>some (h,i,())))
def wW:ei->Option eg:=λ(a,_)=>(e6 (au a) (au a)).bind λg=>(loop (σ:=(Int×ju×Unit)) (ρ:=hL) (λ(e,f,_)=>bif decide (e<au a) then(Option.bind (α:=(ju×Unit)⊕((Int×ju×Unit)⊕hL)) ((aL a e).bind λd=>Option.bind (α:=(ju×Unit)⊕((ju×Unit)⊕((Int×ju×Unit)⊕hL))) (cond (decide (d<0)==false) (cond (decide (d>=au a)==false) (rd f d λj=>cond j (some (.inr (.inr (.inr (.inr (false,())))))) (some (.inl (f,())))) (some (.inr (.inr (.inr (.inr (false,()))))))) (some (.inr (.inr (.inr (.inr (false,()))))))) λb=>match b with
 |.inl (i,_)=>(wr i d true λk=>some (.inl (k,())))
 |.inr c=>some c) λb=>match b with
 |.inl (h,_)=>(some (.inl (aZ e,h,())))
 |.inr c=>some c) else some (.inr (.inl ()))) (0,List.replicate g false,())).bind λb=>match b with
 |.inl _=>(some (true,()))
 |.inr c=>some c
def wX:(gI×Unit)->Option eg:=λ(a,_)=>Option.bind (α:=Unit⊕eg) ((aL a.2.1 0).bind λm=>cond ((m !=0)==false) ((aL a.2.1 (au a.1)).bind λn=>cond (n !=au a.2.2.1) (some (.inr (false,()))) (some (.inl ()))) (some (.inr (false,())))) λc=>match c with
 |.inl _=>((loop (σ:=ba) (ρ:=hL) (λ(e,_)=>bif decide (e<au a.1) then(Option.bind (α:=Unit⊕(ba⊕hL)) (Option.bind (α:=Unit⊕(Unit⊕(ba⊕hL))) ((aL a.2.1 e).bind λo=>(aL a.2.1 (aZ e)).bind λp=>cond (decide (o>p)==false) ((aL a.2.1 (aZ e)).bind λq=>cond (decide (q>au a.2.2.1)) (some (.inr (.inr (.inr (.inr (false,())))))) (some (.inl ()))) (some (.inr (.inr (.inr (.inr (false,()))))))) λc=>match c with
 |.inl _=>((aL a.2.1 e).bind λr=>(aL a.2.1 (aZ e)).bind λs=>((fD r).bind λg=>(fD s).bind λh=>(gg g h (a.2.2.1).length).map λ_=>(g,h)).bind λb=>Option.bind (α:=Unit⊕(Unit⊕(ba⊕hL))) (cond ((au (((a.2.2.1).take b.2).drop b.1)==0)==false) ((aL (((a.2.2.1).take b.2).drop b.1) 0).bind λi=>cond ((i !=e)==false) ((aL (((a.2.2.1).take b.2).drop b.1) (ax (au (((a.2.2.1).take b.2).drop b.1)-1))).bind λj=>cond (decide (j>=au a.1)) (some (.inr (.inr (.inr (.inr (false,())))))) (some (.inl ()))) (some (.inr (.inr (.inr (.inr (false,()))))))) (some (.inr (.inr (.inr (.inr (false,()))))))) λc=>match c with
 |.inl _=>((loop (σ:=ba) (ρ:=(Unit⊕(Unit⊕(ba⊕hL)))) (λ(f,_)=>cond (decide (f<au (((a.2.2.1).take b.2).drop b.1))) ((aL (((a.2.2.1).take b.2).drop b.1) (ax (f-1))).bind λk=>(aL (((a.2.2.1).take b.2).drop b.1) f).bind λl=>cond (decide (k>=l)) (some (.inr (.inr (.inr (.inr (.inr (false,()))))))) (some (.inl (aZ f,())))) (some (.inr (.inl ())))) (1,())).bind λc=>match c with
 |.inl _=>(some (.inl ()))
 |.inr d=>some d)
 |.inr d=>some d)
 |.inr d=>some d) λc=>match c with
 |.inl _=>(some (.inl (aZ e,())))
 |.inr d=>some d) else some (.inr (.inl ()))) (0,())).bind λc=>match c with
 |.inl _=>(some (true,()))
 |.inr d=>some d)
 |.inr d=>some d
def wS:(gI×Unit)->Option ba:=λ(a,_)=>Option.bind (α:=Unit⊕ba) (cond (decide (au a.1>200)) (some (.inr (6,()))) ((wW (a.1,())).bind λ(h,_)=>cond (!h) (some (.inr (90,()))) (Option.bind (α:=eg) (cond ((au a.2.1 !=aZ (au a.1))==false) (some ((au a.2.2.1 !=au a.2.2.2.1),())) (some (true,()))) λ(j,_)=>cond j (some (.inr (2,()))) ((wX (a,())).bind λ(aP,_)=>cond (!aP) (some (.inr (240,()))) (some (.inl ())))))) λb=>match b with
 |.inl _=>((loop (σ:=ba) (ρ:=j4) (λ(d,_)=>cond (decide (d<au a.2.2.2.1)) ((aL a.2.2.2.1 d).bind λl=>(o0 (l,())).bind λ(i,_)=>cond (!i) (some (.inr (.inr (4,())))) (some (.inl (aZ d,())))) (some (.inr (.inl ())))) (0,())).bind λb=>match b with
 |.inl _=>((loop (σ:=ba) (ρ:=j4) (λ(e,_)=>cond (decide (e<au a.1)) ((aL a.2.1 e).bind λm=>(aL a.2.2.2.1 m).bind λk=>(o1 (k,())).bind λ(f,_)=>(nK (f,())).bind λ(g,_)=>cond (decide (g<=0)) (some (.inr (.inr (4,())))) (some (.inl (aZ e,())))) (some (.inr (.inl ())))) (0,())).bind λb=>match b with
 |.inl _=>(some (0,()))
 |.inr c=>some c)
 |.inr c=>some c)
 |.inr c=>some c
def uA:wB->Option ba:=λ(a,d,c,_)=>(aL a.2.1 c).bind λg=>(loop (σ:=ba) (ρ:=j4) (λ(b,_)=>(aL a.2.1 (aZ c)).bind λh=>cond (decide (b<h)) ((aL a.2.2.1 b).bind λi=>cond (i==d) ((aL a.2.2.2.1 b).bind λj=>some (.inr (.inr (j,())))) (some (.inl (aZ b,())))) (some (.inr (.inl ())))) (g,())).bind λe=>match e with
 |.inl _=>(some (0,()))
 |.inr f=>some f
def xP:kA->Option eg:=λ(a,b,_)=>(xZ (a,b,())).bind λ(c,_,_)=>some (decide (c<0),())
def AD:(a7×Int×Int×Unit)->Option eg:=λ(a4,J,bs,_)=>(xR (a4,J,bs,true,())).bind λ(aP,e,_)=>(oY (aP,e,())).bind λ(n,_,a0,_)=>(bif a0 !=0 then(uC ()).bind λ(a3,_)=>some (a3,()) else(Option.bind (α:=(bF×gI×Unit)⊕eg) ((wS (n,())).bind λ(K,_)=>cond ((K !=0)==false) (cond (au n.1 !=aP.1) (some (.inr (false,()))) (some (.inl (aP,n,())))) (some (.inr (false,())))) λb=>match b with
 |.inl (z,D,_)=>((loop (σ:=(Int×bF×gI×Unit)) (ρ:=hL) (λ(a,p,s,_)=>bif decide (a<p.1) then((aL s.2.1 a).bind λce=>(loop (σ:=(Int×bF×gI×Unit)) (ρ:=((bF×gI×Unit)⊕((Int×bF×gI×Unit)⊕hL))) (λ(f,l,g,_)=>(aL g.2.1 (aZ a)).bind λci=>bif decide (f<ci) then(Option.bind (α:=(bF×gI×Unit)⊕((Int×bF×gI×Unit)⊕((bF×gI×Unit)⊕((Int×bF×gI×Unit)⊕hL)))) ((aL g.2.2.1 f).bind λk=>(aL e k).bind λv=>(aL e a).bind λw=>(aL e k).bind λx=>(aL e a).bind λy=>(nR (l,(if w>v then w else v),(if y<x then y else x),())).bind λ(L,_)=>(nP (L,())).bind λ(M,_)=>(loop (σ:=(Int×bF×gI×kB×Unit)) (ρ:=(bF×gI×kB×Unit)) (λ(i,q,h,o,_)=>bif decide (i<a) then(uA (h,k,i,())).bind λ(N,_)=>(nP (N,())).bind λ(O,_)=>(uA (h,a,i,())).bind λ(P,_)=>(nP (P,())).bind λ(Q,_)=>
 (uL (O,Q,())).bind λ(R,_)=>(uM (R,())).bind λ(t,_)=>(dd (o.length+([t]).length)).bind λ_=>some (.inl (aZ i,q,h,(o++[t]),())) else some (.inr (q,h,o,()))) (0,l,g,[M],())).bind λ(r,d,bl,_)=>(sl (bl,())).bind λ(j,_)=>(aL d.2.1 a).bind λco=>(aL d.2.2.2.1 co).bind λcs=>(nP (cs,())).bind λ(m,_)=>(aL d.2.2.2.1 f).bind λcv=>(nP (cv,())).bind λ(S,_)=>(uL (S,m,())).bind λ(T,_)=>(x1 (j,T,())).bind λ(U,_)=>(sk (U,())).bind λ(u,_)=>(sk (j,())).bind λ(V,_)=>(o7 (V,(-53:Int),())).bind λ(W,_)=>(o7 (m,(-1075:Int),())).bind λ(X,_)=>(uJ (W,X,())).bind λ(Y,_)=>Option.bind (α:=(bF×gI×bz×bz×Unit)) (bif k==a then(o7 (j,(-52:Int),())).bind λ(Z,_)=>(o7 (j,(-106:Int),())).bind λ(ad,_)=>
 (o7 (m,(-1074:Int),())).bind λ(am,_)=>(sl ([Z,ad,am],())).bind λ(an,_)=>some (r,d,u,an,()) else some (r,d,u,Y,())) λ(A,E,H,I,_)=>(xP (I,H,())).bind λ(ap,_)=>cond ap (some (.inr (.inr (.inr (.inr (.inr (false,()))))))) (some (.inl (A,E,())))) λb=>match b with
 |.inl (B,F,_)=>(some (.inl (aZ f,B,F,())))
 |.inr c=>some c) else some (.inr (.inl (l,g,())))) (ce,p,s,())).bind λb=>match b with
 |.inl (C,G,_)=>(some (.inl (aZ a,C,G,())))
 |.inr c=>some c) else some (.inr (.inl ()))) (0,z,D,())).bind λb=>match b with
 |.inl _=>((uC ()).bind λ(av,_)=>some (av,()))
 |.inr c=>some c)
 |.inr c=>some c))
end Go.h1
section
namespace Go.Proofs
open Go.RowKit Go.Shelf Go.Sort
attribute [local go_sem] Oper.semAt_some
def Tryz.NS:Go.Shelf.Ren:=⟨λ|20=>275|n=>n,λ|22=>23|3=>3|4=>4|0=>0|n=>n,λ|n=>n⟩
def Tryz.FP:Lays2.n20 Tryz.prog Tryz.NS where
 mixed:=by kernel_rfl
 f20:=Tryz.func275.trans (congrArg some (by kernel_rfl))
 t0:=Tryz.underlying0
 a0:=Tryz.isAgg0
 z0:=Tryz.sizeOf0
 v0:=Tryz.zeroValue0
 t3:=Tryz.underlying3
 a3:=Tryz.isAgg3
 z3:=Tryz.sizeOf3
 v3:=Tryz.zeroValue3
 t4:=Tryz.underlying4
 a4:=Tryz.isAgg4
 z4:=Tryz.sizeOf4
 v4:=Tryz.zeroValue4
 t22:=Tryz.underlying23
 a22:=Tryz.isAgg23
 z22:=Tryz.sizeOf23
 v22:=Tryz.zeroValue23
 i3:=by kernel_rfl
namespace Dp
def jM {a:Type} (b:Nat->a) (c:Nat):List a:=(List.range c).map b
def I6 {c:Type} (a:Nat->c) (b:Nat):jM a (b+1)=jM a b++[a b]:=by simp[jM,oH]
def Tu {c:Type} (b:Nat->c) (a:Nat):(jM b a).length=a:=by simp[jM]
def Tt (a:cP):jM (λc=>a[c]?.getD 0) a.length=a:=by
 apply List.ext_getElem
 ·simp[jM]
 intro e d b;simp[jM,b]
set_option maxRecDepth 100000 in
set_option maxHeartbeats 2000000 in
def TC (j:Fence) (m:Nat) (A:j.fn 290) (K:j.round=none) (T:1<=m) (v q n h k b x:Nat) (g:cP) (V:b*8<=140737488351232) (F:h<n) (J r:cP->World->Prop) (E:∀e o c,J e c->e.length<b->YieldAt j (m-1) Tryz.prog v #[.int .i64 o] c λi f=>
  (i=.returned (.bool true)/\J (e++[o]) f/\Below n c f)\/(i=.returned (.bool false)/\r (e++[o]) f))
 (c:World) (Q:c.cell? ⟨q,0,none⟩=some (.slice (some ⟨h,k,none⟩) b x)) (G:∀d,d<b->c.cell? ⟨h,k+d,none⟩=some (.int .i64 (g[d]?.getD 0))) (z:J [] c):
 CallsIn j m Tryz.prog 290 #[.func (.yield v) #[] #[],.pointer (some ⟨q,0,none⟩)] c λi f=>(∃L,i=.returned L)/\((∃w,w=jM (λd=>g[d]?.getD 0) b/\J w f)\/(∃e,(∃a,a<=b/\e=jM (λd=>g[d]?.getD 0) a)/\r e f)):=by
 refine callsIn_of_wp Tryz.func290 rfl A ?_ K;simp only[Tryz.ntmps290,oI,g8,oF,Nat.reduceAdd,Nat.reduceSub,rz,rA,rM,rI,hb,h3]
 gi_wp2
 gi_loopw [7] (λl wr=>∃a:Nat,a<=b/\l=.int .i64 a/\J (jM (λd=>g[d]?.getD 0) a) wr/\Below n c wr) (λl _=>b-(intOf l).toNat)
 case atStart=>exact⟨0,eL _,rfl,z,Below.refl _ _⟩
 case round=>
  obtain⟨a,S,rfl,s,u⟩:=hrel;have H:a<b->wr.cell? ⟨h,k+a,none⟩=some (.int .i64 (g[a]?.getD 0)):=λy=>(u.cell (p:=⟨h,k+a,none⟩) F).trans (G a y);by_cases t:a<b
  ·obtain⟨P,X,N,O,W,D⟩:=E _ (g[a]?.getD 0) wr s (by rw[Tu];exact t);have R:=H t
   gi_wp2
   refine D.mono ?_;rintro i M (⟨rfl,B,I⟩|⟨rfl,C⟩)
   ·gi_wp2
    go_roundw
    case rel=>exact⟨a+1,U,ab,by rw[I6];exact B,u.trans I⟩
    case measure=>simp[intOf];omega
   gi_wp2
   refine bodyPost_ret (results_none rfl _ _ _) rfl ?_;exact⟨⟨_,rfl⟩,.inr ⟨_,⟨a+1,U,(I6 _ _).symm⟩,C⟩⟩
  obtain rfl:a=b:=by omega
  gi_wp2
  go_end0
  exact⟨⟨_,rfl⟩,.inl ⟨_,rfl,s⟩⟩
def Tv (a:cP) {b:Nat} (d:b<=a.length):jM (λf=>a[f]?.getD 0) b=a.take b:=by
 apply List.ext_getElem
 ·simp[jM,d]
 intro e c g;have:e<a.length:=(by simp[jM] at c;omega);simp[jM,this]
def mC (i:Nat) (g:World) (f:Value) (a:cP):Prop:=
 (∃h c,f=.slice h 0 c/\a=[])\/∃b e c,f=.slice (some ⟨b,e,none⟩) a.length c/\b<i/\∀d,d<a.length->g.cell? ⟨b,e+d,none⟩=some (.int .i64 (a[d]?.getD 0))
def mC.below {b:Nat} {c d:World} (l:Below b c d) {i:Value} {j:cP}:mC b c i j->mC b d i j
 |.inl a=>.inl a
 |.inr ⟨e,h,k,a,f,m⟩=>.inr ⟨e,h,k,a,f,λg n=>(l.cell (p:=⟨e,h+g,none⟩) f).trans (m g n)⟩
set_option maxRecDepth 100000 in
set_option maxHeartbeats 1000000 in
def TD (a:Fence) (n:Nat) (i:a.fn 290) (k:a.round=none) (m c:Nat) (e:Option Addr) (f:Nat) (J:cP->World->Prop) (b:World) (p:b.cell? ⟨c,0,none⟩=some (.slice e 0 f)) (h:J [] b):CallsIn a n Tryz.prog 290 #[.func (.yield m) #[] #[],.pointer (some ⟨c,0,none⟩)] b λg d=>(∃o,g=.returned o)/\J [] d:=by
 refine callsIn_of_wp Tryz.func290 rfl i ?_ k;simp only[Tryz.ntmps290,oI,g8,oF,Nat.reduceAdd,Nat.reduceSub,rz,rA,rM,rI,hb,h3]
 gi_wp2
 gi_loopw [7] (λl wr=>l=.int .i64 0/\J [] wr) (λ_ _=>0)
 case atStart=>exact⟨rfl,h⟩
 case round=>
  obtain⟨rfl,j⟩:=hrel
  gi_wp2
  go_end0
  exact⟨⟨_,rfl⟩,j⟩
set_option maxHeartbeats 1000000 in
def TE (a:Fence) (i:Nat) (g:a.fn 277) (h:a.round=none) (c:Option Addr) (e d:Nat) (b:World):CallsIn a i Tryz.prog 277 #[.slice c e d] b λf j=>f=.returned (.func (.func 290) #[] #[.pointer (some ⟨b.heap.size,0,none⟩)])/\j=b.alloc (.cells #[.slice c e d] 23):=by
 refine callsIn_of_wp Tryz.func277 rfl g ?_ h;simp only[Tryz.ntmps277,oI,g8,oF,Nat.reduceAdd,Nat.reduceSub,rz,rA,rM,rI,hb,h3]
 gi_wp2
 go_ret
 exact⟨rfl,rfl⟩
def TF (c:Fence) (g:Nat) (l:c.fn 290) (o:c.round=none) (G:1<=g) (b h:Nat) (s:Value) (a:cP) (I:a.length*8<=140737488351232) (e:World) (z:b<e.heap.size) (H:h<=e.heap.size) (D:e.cell? ⟨b,0,none⟩=some s) (A:mC h e s a):SeqStopsK c g Tryz.prog 290 #[.pointer (some ⟨b,0,none⟩)] (λL:Int=>#[Value.int .i64 L]) (Below h) (λt=>t=a) (λr=>r<+:a) a.length e:=λq J u j m _ _ B k=>by
 have n:=(m.cell (p:=⟨b,0,none⟩) z).trans D;rcases A.below (m.mono H) with⟨w,i,rfl,rfl⟩|⟨x,K,i,rfl,C,E⟩
 ·exact(TD c g l o q b w i J j n k).mono λy v ⟨f,d⟩=>⟨f,.inl ⟨_,rfl,d⟩⟩
 refine(TC c g l o G q b h x K a.length i a I C J u B j n E k).mono ?_;rintro y v ⟨f,⟨t,rfl,d⟩|⟨r,⟨M,F,rfl⟩,d⟩⟩
 ·exact⟨f,.inl ⟨_,Tt a,d⟩⟩
 exact⟨f,.inr ⟨_,by rw[Tv a F];exact List.take_prefix _ _,d⟩⟩
def No:(Tryz.prog.info? 3).map (λa=>(a.zero,a.size,a.bytes))=some (some (.int .i64 0),1,8):=by kernel_rfl
set_option maxRecDepth 100000 in
set_option maxHeartbeats 2000000 in
def Kt (g:Fence) (m:Nat) (E:g.fn 299) (u:g.fn 290) (q:g.round=none) (av:3<=m) (e:Nat) (r:Value) (f:cP) (M:f.length*8<=140737488351232) (a:World) (F:e<a.heap.size) (o:a.cell? ⟨e,0,none⟩=some r) (H:mC a.heap.size a r f):CallsIn g m Tryz.prog 299 #[.slice none 0 0,.func (.func 290) #[] #[.pointer (some ⟨e,0,none⟩)]] a λB t=>∃b,B=.returned b/\t.ownsRow a.heap.size 3 1 b f.length (f.map (Value.int .i64))/\(b=.slice none 0 0↔f=[])/\Below a.heap.size a t:=by
 have D:1<=m:=U;obtain⟨S,J,P,Q,R⟩:=info_parts No;refine callsIn_of_wp_marks Tryz.func299 rfl E ?_ q;simp only[Tryz.ntmps299,oI,g8,oF,Nat.reduceAdd,Nat.reduceSub,rz,rA,rM,rI,hb,h3]
 gi_wp2
 have A:=Boxed.new a 23 (.slice none 0 0);have n:Below a.heap.size a (a.alloc (.cells #[.slice none 0 0] 23)):=(Below.refl _ a).alloc (a2 _) _;refine wpIn_rangeFunc_ownG q D (gf:=290) (lb:=#[.pointer (some ⟨e,0,none⟩)]) rfl u (enters_of Tryz.func290 (by kernel_rfl) rfl) (TF g (m-1) u q U e a.heap.size r f M _ (by simp;omega) ab ((n.cell (p:=⟨e,0,none⟩) F).trans o) (H.below n)) belowK_t (belowK_b ab) (Below.refl _ _) (λ_=>rfl) (λc d=>(∃b,Boxed d a.heap.size 23 b/\d.ownsRow a.heap.size 3 1 b c.length (c.map (Value.int .i64))/\(b=.slice none 0 0↔c=[]))/\Below a.heap.size a d) (λ_ _ _=>False) (OwnFrom.and (Own.from (holdsRow_own a.heap.size a.heap.size 23 3 1 (λc=>c.length) (λc=>c.map (Value.int .i64)) (λc b=>b=.slice none 0 0↔c=[])) _) (ownFrom_below (a2 _) ab)) (λ_ _ _ _ _ N _ _=>N) ⟨⟨_,A,World.ownsRow_nil _ _ _ _,ab⟩,n⟩ (λj=>{tmps:=#[.slice none 0 0,.func (.func 290) #[] #[.pointer (some ⟨e,0,none⟩)],.pointer (some ⟨a.heap.size,0,none⟩),undef,.slice none 0 0,.int .i64 j,.func (.func 290) #[] #[.pointer (some ⟨e,0,none⟩)],.int .i64 j,undef,undef,undef,undef,undef],defers:=[]}) ?assign ?body ?done ?stop
 case assign=>
  intro T j d V i
  gi_wp2
  exact i
 case body=>
  rintro T c j d ⟨⟨b,l,k,x⟩,h⟩ ap;have o:=l.cell;have an:f.length<=maxLen:=(by simp only[maxLen];omega);have Z:f.length*8<=140737488355328:=by omega
  gi_wp2_with (gi_at_builtin;refine wpListIn_append_own _ rfl _ _ 23 rfl a.heap.size 3 S (.int .i64 0) 1 8 Tryz.underlying23 J P Q R rfl aa _ _ _ rfl (k.alloc _) ⟨d.heap.size,0,none⟩ 1 1 [.int .i64 j] rfl rfl (cell_one_new _ _ _) (by simp[Value.oneCell']) U U (by have:=h.size;simp;omega) ?_;intro a0 a3 y I _;obtain⟨Y,X,rfl⟩:=ownsRow_succ y;obtain⟨z,O,L,K,v⟩:=l.appended aa k h.size (a2 _) y I;have ad:=z.cell;have am:=z.frozen)
  exact⟨K.from _,v,⟨_,O,by simpa using L,ab⟩,h.trans v⟩
 case done=>
  rintro s a4 d G rfl ⟨⟨b,l,k,x⟩,h⟩ i;have o:=l.cell
  gi_wp2
  refine⟨ab,.inl ⟨_,_,rfl,run_takeDeferred i,?_⟩⟩;exact⟨_,results_tmp rfl _ _ _,b,rfl,ownsRow_putObj k _ i rfl,x,h.trans (belowK_b (w:=a) (a2 _) d s _ _ (by simp at G;omega) i rfl rfl)⟩
 case stop=>
  rintro s W c d _ _ C _;exact C.elim
set_option maxHeartbeats 1000000 in
def Le (b:Fence) (f:Nat) (m:b.fn 288) (k:b.fn 299) (l:b.fn 290) (j:b.round=none) (v:4<=f) (e:Nat) (g:Value) (c:cP) (s:c.length*8<=140737488351232) (a:World) (n:e<a.heap.size) (q:a.cell? ⟨e,0,none⟩=some g) (o:mC a.heap.size a g c):CallsIn b f Tryz.prog 288 #[.func (.func 290) #[] #[.pointer (some ⟨e,0,none⟩)]] a λi h=>∃d,i=.returned d/\h.ownsRow a.heap.size 3 1 d c.length (c.map (Value.int .i64))/\(d=.slice none 0 0↔c=[])/\Below a.heap.size a h:=by
 have u:1<=f:=U;refine callsIn_of_wp Tryz.func288 rfl m ?_ j;simp only[Tryz.ntmps288,oI,g8,oF,Nat.reduceAdd,Nat.reduceSub,rz,rA,rM,rI,hb,h3]
 gi_wp2_with (gi_at_call 299;refine(Kt b (f-1) k l j U e g c s _ n q o).mono ?_;rintro i w ⟨d,rfl,t,r,p⟩)
 go_ret
 exact⟨d,rfl,t,r,p⟩
open Go.h1
theorem RP {M:bO->Nat->Prop} {f:World} {k:Nat} {j:Value} {b:cP} (s:f.ownsRow k 3 1 j b.length (b.map (Value.int .i64))):∃d,aG M f (.osl (.int .i64)) [j] b d/\d.Nodup/\∀h∈d,k<=h/\h<f.heap.size:=by
 rcases s.2 with⟨rfl,t⟩|⟨e,l,i,rfl,w,q,u,A,v,m⟩
 ·obtain rfl:=k7 t;exact⟨[],⟨none,0,rfl,.inl ⟨rfl,rfl,rfl,rfl⟩⟩,ab,ab⟩
 rw[Nat.mul_one] at v m;have o:∀a,a<l->f.cell? ⟨e,a,none⟩=some (i[a]?.getD undef)/\f.frozen? ⟨e,a,none⟩=false:=λa c=>(by constructor<;>simp[World.cell?,World.frozen?,q,(U:a<i.size)]);refine⟨[e],⟨some ⟨e,0,none⟩,l,rfl,.inr ⟨e,0,List.replicate b.length [],rfl,ab,ab,u,λa _ c=>?_,λg z d r p=>?_⟩⟩,ab,λh n=>?_⟩
 ·obtain⟨aq,y⟩:=o a (by simpa[af.size] using c);exact⟨by rw[aq];rfl,y⟩
 ·have x:g<b.length:=(ec.1 r).1;obtain rfl:d=[]:=by
   rw[lP] at p;split at p<;>simp_all
  refine⟨[.int .i64 z],rfl,λa j c=>?_,rfl,rfl⟩;cases a with
  |succ a=>simp at c
  |zero=>
   simp only[iF,bH] at c;subst c;simp only[af.size,Nat.mul_one,h8,lT];rw[(o g U).1];have:(i.toList.take b.length)[g]?=(b.map (Value.int .i64))[g]?:=(by rw[m]);rw[ks x,tn,gn,r] at this;rw[this];rfl
 simp only[eV] at n;subst n;exact⟨w,(lK.1 q).1⟩
def Ni {o:bO->Nat->Prop} {n:World} {i:Value} {a:cP} {k:cO} (g:aG o n (.osl (.int .i64)) [i] a k):(∃j b,i=.slice j 0 b/\a=[])\/∃c e b,i=.slice (some ⟨c,e,none⟩) a.length b/\a.length<=b/\Holds (Value.int .i64) n c e a.toArray/\k=[c]:=by
 obtain⟨j,b,m,g⟩:=g;simp only[fd,and_true] at m;subst m;rcases g with⟨rfl,rfl,rfl,rfl⟩|⟨c,e,f,rfl,rfl,A,s,t,l⟩
 ·exact .inl ⟨none,0,rfl,rfl⟩
 right;have u:f.flatten=[]:=by
  rw[List.flatten_eq_nil_iff];intro C x;obtain⟨h,B,rfl⟩:=g9.1 x;obtain⟨r,_,_,y⟩:=l h (a[h]'(by omega)) f[h] ab ab
  exact y.1
 refine⟨c,e,b,rfl,s,λd v=>?_,by rw[u]⟩;have w:d<a.length:=(by simpa using v);obtain⟨r,z,p,_,q⟩:=l d a[d] (f[d]'(by omega)) ab ab
 subst q;have aq:=p 0 _ rfl;simp only[af.size,Nat.mul_one,lT] at aq;exact⟨by rw[aq];simp[w],(t (e+d) U (by simp only[af.size];omega)).2⟩
def zR (E:dz) (c:cP->cA):Prop:=∀b a,c b=some a->oA E 289 [.m ⟨.osl (.int .i64),b⟩ a] []
set_option maxRecDepth 100000 in
set_option maxHeartbeats 2000000 in
def SL (i:Fence) (h:∀e,i.fn e) (z:i.round=none) (O:∀(ad:Nat) (e:FuncId) (v:cG) (c:World) (t:Ending->World->Prop),Calls Tryz.prog e v c t->CallsIn i ad Tryz.prog e v c t) {E:dz} (I:E.P=Tryz.prog) {C:cP->cA} (Y:zR E C) (k:Nat) (a0:5<=k) (m:Nat) (r:Value) (l s:cP) (Z:C l=some s) (W:l.length*8<=140737488351232) (c:World) (J:iA E (λb=>b<c.heap.size) c) (H:m<c.heap.size) (N:c.cell? ⟨m,0,none⟩=some r) (K:mC c.heap.size c r l):CallsIn i k Tryz.prog 276 #[.func (.func 290) #[] #[.pointer (some ⟨m,0,none⟩)]] c λp u=>∃g e D,p=.returned g/\aG D u (.osl (.int .i64)) [g] s e/\(∀b∈e,c.heap.size<=b)/\Below c.heap.size c u:=by
 have av:1<=k:=U;have a3:=h 288;have a4:=h 289;refine callsIn_of_wp Tryz.func276 rfl (h _) ?_ z;simp only[Tryz.ntmps276,oI,g8,oF,Nat.reduceAdd,Nat.reduceSub,rz,rA,rM,rI,hb,h3]
 gi_wp2_with (first
  |(
   gi_at_call 288;refine(Le i (k-1) (h _) (h _) (h _) z U m r l W _ H N K).mono ?_;rintro p F ⟨g,rfl,A,T,d⟩
   obtain⟨e,V,S,o⟩:=RP (M:=aY (λ_=>False) (λ_=>False)) A;have n:=Y l s Z F (λb=>b<c.heap.size) (λ_=>False) [g] [e] (λb a=>by rcases a with a|a;exact fF a d.size;exact a.elim) ⟨⟨[g],rfl,V⟩,trivial⟩ (by simpa using S) (λb d=>⟨Nat.not_lt.2 (o b (by simpa using d)).1,λa=>a,(o b (by simpa using d)).2⟩) True.intro (J.mono (λ_ a=>a) λb a=>d.block b a);rw[I] at n;have n:=O (k-1) _ _ _ _ n;clear A T)
  |(gi_at_call 289;refine n.mono ?_;rintro p an ⟨am,w,bl,B,rfl,f⟩))
 have Q:∃j,w=[j]:=by
  have:=f.args
  match w,this with
  |[j],_=>exact⟨j,rfl⟩
  |[],a=>exact a.elim
  |_::_::_,a=>exact a.2.elim
 obtain⟨j,rfl⟩:=Q;obtain⟨ap,ai,y⟩:=f.args.1;have R:=y.len;obtain⟨G,rfl⟩:=rL.1 R;have ai:g=G:=ai;subst ai;have X:B=[]:=by
  have:=f.res
  match B,this with
  |[],_=>rfl
  |_::_,a=>exact a.elim
 subst X
 go_ret
 refine⟨g,j,_,rfl,y,λb L=>?_,?_⟩
 ·have:=(f.Ee b (by simp[L])).2.2.2;rcases this with a|a
  ·exact bt d.size a
  exact(o b (by simpa using a)).1
 exact⟨f.os.trans d.os,f.tape.trans d.tape,f.output.trans d.output,bt d.size f.size,λq x=>(f.heap q (fF x d.size) (λa=>by have:=(o q (by simpa using a)).1;omega)).trans (d.block q x)⟩
def Lj {j:bO->Nat->Prop} {b:World} {B:Nat} {i:Value} {e:cP} {h:cO} (n:aG j b (.osl (.int .i64)) [i] e h) (m:∀c∈h,B<=c) (r:e.length<=1000000):Calls Tryz.prog 275 #[i] b (λf g=>∃d a,f=.returned (.slice d (Lib.compact e).length a)/\Below B b g):=by
 rcases Ni n with⟨d,a,rfl,rfl⟩|⟨c,p,a,rfl,l,k,rfl⟩
 ·refine(Any.slices_Compact_int_empty Tryz.FP d a b).mono ?_;rintro f g ⟨rfl,rfl⟩;exact⟨d,a,rfl,Below.refl _ _⟩
 refine(Any.slices_Compact_int Tryz.FP c p a e b k U l).mono ?_;rintro f g ⟨rfl,s,rfl⟩;refine⟨_,a,rfl,rfl,rfl,rfl,by simp[putRow,mapBlock,Sort.ahead],λo q=>?_⟩;have:=m c ab;simp[putRow,mapBlock,Sort.ahead,tm,(U:c≠o)]
set_option maxRecDepth 100000 in
set_option maxHeartbeats 2000000 in
def Ti (g:Fence) (i:∀k,g.fn k) (p:g.round=none) (t:∀(S:Nat) (k:FuncId) (r:cG) (a:World) (q:Ending->World->Prop),Calls Tryz.prog k r a q->CallsIn g S Tryz.prog k r a q) {E:dz} (F:E.P=Tryz.prog) {x:cP->cA} (O:zR E x) (j:Nat) (am:7<=j) (c:Option Addr) (b e:Nat) (f m:cP) (R:x f=some m) (N:f.length=b) (a0:f.length<=1000000) (Q:m.length<=1000000) (a:World) (G:iA E (λd=>d<a.heap.size) a) (H:mC a.heap.size a (.slice c b e) f):CallsIn g j Tryz.prog 249 #[.slice c b e] a λh z=>h=.returned (.bool (decide ((Lib.compact m).length<f.length)))/\Below a.heap.size a z:=by
 have ad:1<=j:=U;have an:=i 277;have ap:=i 276;have av:=i 275;generalize M:(Lib.compact m).length=Z;refine callsIn_of_wp Tryz.func249 rfl (i _) ?_ p;simp only[Tryz.ntmps249,oI,g8,oF,Nat.reduceAdd,Nat.reduceSub,rz,rA,rM,rI,hb,h3];have C:=Boxed.new a 23 (.slice c b e);have n:Below a.heap.size a (a.alloc (.cells #[.slice c b e] 23)):=(Below.refl _ a).alloc (a2 _) _;have I:mC (a.alloc (.cells #[.slice c b e] 23)).heap.size (a.alloc (.cells #[.slice c b e] 23)) (.slice c b e) f:=by
  rcases H.below n with l|⟨d,T,D,h,o,L⟩
  ·exact .inl l
  exact .inr ⟨d,T,D,h,by simp;omega,L⟩
 have w:=SL g i p t F O (j-1) U a.heap.size (.slice c b e) f m R U _ (G.mono (λd (l:d<a.heap.size)=>fF l n.size) λd l=>n.block d l) ab C.cell I
 gi_wp2_with (first
  |(gi_at_call 277;refine(TE g (j-1) (i _) p c b e a).mono ?_;rintro h a4 ⟨rfl,rfl⟩)
  |(gi_at_call 276;refine w.mono ?_;rintro h y ⟨a3,k,V,rfl,v,u,o⟩;have s:=t (j-1) _ _ _ _ (Lj (B:=a.heap.size) v (λd J=>by have:=u d J;simp at this;omega) Q);rw[M] at s;have A:Below a.heap.size a y:=n.trans (o.mono ab);clear v u o w)
  |(gi_at_call 275;refine s.mono ?_;rintro h W ⟨X,Y,rfl,K⟩))
 go_ret
 exact⟨by rw[N];rfl,A.trans K⟩
def Tf (c:cP->cA):g5:=⟨249,[.v (.aV .dO (.int .i64))],[.bool],λa=>(v2 c a.1).map λb=>(b,())⟩
def Tg {E:dz} (q:E.P=Tryz.prog) {sort:cP->cA} (K:zR E sort):aE E (Tf sort):=by
 refine⟨λg f=>by rw[q];exact Tryz.call249 g f,?_⟩;rintro⟨d,_⟩ b c;have w:(v2 sort d).map (λb=>(b,()))=some b:=c;obtain⟨B,e,rfl⟩:=dH.1 w;clear c w;unfold v2 at e;cases l:Nat.ble d.length 1000000 with
 |false=>rw[l] at e;cases e
 |true=>
 rw[l] at e;obtain⟨s,M,e⟩:=bS.1 e;cases m:Nat.ble s.length 1000000 with
 |false=>rw[m] at e;cases e
 |true=>
 rw[m] at e;have c:decide ((Lib.compact s).length<d.length)=B:=dp e;subst c;have l:=eo l;have m:=eo m;rintro f t A g k u h Z Y _hself;have h:jy (tj t A f) [.v ⟨.aV .dO (.int .i64),d⟩] g k:=h;obtain⟨p,j,rfl,rfl⟩:∃p j,g=[p]/\k=[j]:=by
  cases g with
  |nil=>exact h.elim
  |cons p g=>
   cases k with
   |nil=>exact h.elim
   |cons j k=>
    have a:=h.2;cases g with
    |nil=>cases k with
     |nil=>exact⟨p,j,rfl,rfl⟩
     |cons=>exact a.elim
    |cons=>exact a.elim
 obtain⟨⟨rfl,S,rfl,J⟩,_⟩:=h;obtain⟨_,o,i,rfl,X,ad,I⟩:=J;have G:mC f.heap.size f (.slice o d.length i) d:=by
  rcases I with a|⟨b,O,rfl,H,L⟩
  ·exact .inl ⟨o,i,by rw[show d=[] from a];rfl,a⟩
  refine .inr ⟨b,O,i,rfl,u b H,λy x=>?_⟩;obtain⟨V,T,C,_,D⟩:=L y d[y] (by simp[x]);subst D;have z:=C 0 _ rfl;simp only[af.size,Nat.mul_one,lT] at z;rw[z];simp[x]
 intro F;have a:=Ti Fence.wide (λ_=>trivial) rfl (λN j R f Q a=>(callsIn_wide (n:=N)).2 a) q K 10 U o d.length i d s M rfl l m f (F.mono (λb a=>u b (.inl a)) λ_ _=>rfl) G;have a:=callsIn_wide.1 a;show Calls E.P 249 #[.slice o d.length i] f _;rw[q];refine a.mono ?_;rintro W am ⟨rfl,c⟩;refine⟨t,[[]],[[]],[.bool _],rfl,⟨⟨rfl,trivial⟩,⟨⟨[.bool _],rfl,rfl,rfl⟩,trivial⟩,ab,ab,λ_ a=>a,λ_ a=>.inl a,c.size,c.os,c.tape,c.output,λb r=>.of_heap (c.block b r),λb r _=>c.block b r⟩⟩
end Dp
end Go.Proofs
end
namespace Go.h1
variable{a b f:Nat}{c m:cP}{d r:Int}{e:Type}{g:Nat->Nat->Prop}{h:Nat->Prop}{i:cE}{j:Value}{k:List eX}{l:List af}{n:Prop}{o:World}{p:List ResultVar}{s:Bool}{t:bO->Nat->Prop}{u:Func}
section
open Go.Proofs
open Tryz
abbrev dL:af:=(.int .u32)
abbrev dM:af:=(.aV .bn dL)
abbrev bx:af:=(.st (.pr .bool (.pr dM .nil)))
abbrev aK:af:=(.int .i64)
abbrev bv:af:=(.st (.pr .bool (.pr bx (.pr aK .nil))))
abbrev hK:af:=(.osl aK)
abbrev c6:af:=(.int .u64)
abbrev Dq:af:=(.pr hK (.pr hK (.pr (.osl c6) .nil)))
abbrev fH:af:=(.aV .dO aK)
abbrev jt:af:=(.aV .dO c6)
abbrev Dr:af:=(.pr fH (.pr fH (.pr jt .nil)))
abbrev gH:af:=(.aV .bn aK)
abbrev Ds:af:=(.pr gH (.pr gH (.pr (.aV .bn c6) .nil)))
abbrev wA:af:=(.osl bv)
abbrev Dv:af:=(.st (.pr aK (.pr aK (.pr wA .nil))))
abbrev rS:af:=(.st (.pr aK (.pr aK (.pr fH (.pr aK .nil)))))
abbrev Du:af:=(.osl (.osl c6))
abbrev zX:af:=(.optr (.st (.pr (.aV .bn gH) (.pr Du (.pr (.osl (.mp bv)) (.pr (.osl hK) .nil))))))
abbrev oL:af:=(.st (.pr aK (.pr aK (.pr (.aV .bn bv) .nil))))
abbrev lV:af:=(.st (.pr aK (.pr aK (.pr c6 .nil))))
abbrev zS:af:=(.st (.pr aK (.pr aK (.pr (.osl c6) .nil))))
abbrev tM:af:=(.st (.pr aK (.pr aK Dq)))
abbrev JS:af:=(.optr tM)
abbrev mK:af:=(.st (.pr (.aV .bn gH) .nil))
abbrev lW:af:=(.st (.pr (.aV .dO fH) .nil))
abbrev ky:af:=(.st (.pr aK (.pr aK Dr)))
abbrev wu:af:=(.st (.pr gH Ds))
abbrev JT:af:=(.osl (.st (.pr aK (.pr aK (.pr hK (.pr aK .nil))))))
abbrev zV:af:=(.osl .bool)
abbrev wv:af:=(.osl zV)
abbrev tL:af:=(.st (.pr aK (.pr aK Ds)))
abbrev JU:af:=(.st (.pr aK (.pr aK (.pr (.aV .dO bv) .nil))))
abbrev zT:af:=(.st (.pr (.osl gH) .nil))
abbrev js:af:=(.osl dL)
abbrev mL:af:=(.st (.pr .bool (.pr bx (.pr aK (.pr .bool .nil)))))
abbrev JV:af:=(.optr Dv)
abbrev zW:af:=(.st (.pr hK Dq))
abbrev JW:af:=(.optr zW)
abbrev JX:af:=(.optr bv)
abbrev ww:af:=(.st (.pr aK (.pr aK (.pr (.aV .bn c6) .nil))))
abbrev JY:af:=(.ptr .bn bx)
abbrev JZ:af:=(.optr bx)
abbrev wx:af:=(.st (.pr fH Dr))
abbrev zU:af:=(.optr (.st (.pr hK (.pr hK .nil))))
abbrev J0:af:=(.optr (.st (.pr oL (.pr zS (.pr wA .nil)))))
abbrev J1:af:=(.optr (.st (.pr aK (.pr mK (.pr (.osl (.mp bv)) .nil)))))
abbrev J2:af:=(.ptr .bn ky)
abbrev oM:af:=(.osl lV)
abbrev J3:af:=(.ptr .bn bv)
abbrev wy:af:=(.ptr .dO (.st (.pr aK (.pr lW (.pr (.aV .dO (.dh .dO bv)) .nil)))))
abbrev J4:af:=(.optr (.st (.pr wv (.pr zV .nil))))
abbrev J5:af:=(.st (.pr aK (.pr aK (.pr jt .nil))))
abbrev wz:af:=(.ptr .bn lW)
abbrev Dt:af:=(.st (.pr aK (.pr aK (.pr gH (.pr gH (.pr (.osl c6) .nil))))))
abbrev J6:af:=(.optr wu)
abbrev J7:af:=(.aV .dO rS)
abbrev J8:af:=(.optr zS)
abbrev J9:af:=(.ptr .bn wx)
def tt:List (Nat×af):=[(3,aK),(4,.bool),(5,(.int .u8)),(9,.str),(22,(.aV .bn c6)),(23,gH),(25,(.aV .bn c6)),(27,tL),(31,wu),(39,(.aV .bn gH)),(41,mK),(50,c6),(51,c6),(55,dM),(57,bx),(59,bv),(62,(.aV .bn bv)),(71,ww),(75,oL),(84,(.aV .bn (.st (.pr aK (.pr aK (.pr gH (.pr aK .nil))))))),(90,(.st (.pr aK (.pr aK (.pr gH (.pr aK .nil)))))),(102,(.aV .bn (.dh .bn bv))),(104,(.st (.pr aK (.pr mK (.pr (.aV .bn (.dh .bn bv)) .nil))))),(109,(.aV .bn (.aV .bn c6))),(117,(.aV .bn lV)),(120,lV),(122,(.aV .bn (.aV .bn .bool))),(124,(.aV .bn .bool)),(132,c6),(139,dL),(149,(.aV .bn (.aV .bn bv))),(155,(.aV .bn (.aV .bn (.st (.pr aK (.pr aK (.pr gH (.pr aK .nil)))))))),(156,(.aV .bn (.aV .bn oL))),(158,(.aV .bn oL)),(166,(.dh .bn bv)),(168,(.st (.pr (.aV .bn gH) (.pr (.aV .bn (.aV .bn c6)) (.pr (.aV .bn (.dh .bn bv)) (.pr (.aV .bn gH) .nil)))))),(175,(.st (.pr (.aV .bn (.aV .bn .bool)) (.pr (.aV .bn .bool) .nil)))),(206,(.st (.pr oL (.pr ww (.pr (.aV .bn bv) .nil))))),(212,(.aV .bn (.aV .bn .bool))),(223,mL),(254,(.st (.pr gH (.pr gH .nil)))),(306,c6)]
def IU:∀a b,ak tt a=some b->dm Tryz.prog b a:=IV (by kernel_rfl)
def E:dz:={P:=Tryz.prog,tt:=tt,ok:=IU,mix:=by kernel_rfl,glob:=[⟨0,266,.u8,mP⟩],gok:=M0 IU (S:=5) (by kernel_rfl) (by kernel_rfl)}
def CX:List af:=[hK,js,JV,bx,JX,JZ,bv,JS,.bool,c6,wv,JY,oM,zV,Dv,J3,J2,wA,JW,J6,J8,wu,JT,dM,(.optr tL),wz,(.optr zT),zX,tL,tM,mK,J9,zS,oL,(.optr mK),Du,(.optr oL),zU,zW,(.osl wA),J1,gH,(.osl hK),(.ptr .bn JU),(.optr ky),J4,(.ptr .bn rS),J0,(.osl gH),(.optr ww),(.optr gH),zT,(.aV .bn gH),(.ptr .bn mL),ww,rS,lV,(.optr c6),(.osl c6),(.ptr .bn J5),(.osl (.osl rS)),(.osl (.osl oL)),dL,(.ptr .bn lV),(.optr aK),aK,(.osl (.mp bv)),(.mp bv),mL,(.aV .bn lV),(.optr Dt),Dt,(.optr rS),(.ptr .bn (.st (.pr aK (.pr mK (.pr (.aV .bn (.dh .bn bv)) .nil))))),(.optr mL),(.aV .bn (.aV .bn .bool)),(.st (.pr aK (.pr aK (.pr hK (.pr aK .nil))))),(.ptr .bn J7),(.osl rS),(.aV .bn (.st (.pr aK (.pr aK (.pr gH (.pr aK .nil))))))]
def aN {f:eZ k->Option (gi k (iW l))} (g:tK E) (c:Nat) (e:E.P.funcs[a]?=some u) (d:(u.body.isSome&&Nat.ble k.length u.ntmps)=true:=by kernel_rfl) (i:(u.name=="runtime.NumGoroutine")=false:=by kernel_rfl) (h:∀b,u7 ⟨E.tt,g.1,(Cv CX c).2.1,u.ntmps,hm 0 k++kW (g3 0 k),[],(Cv CX c).2.2,g3 0 k,[],[],E.glob⟩ ((Cv CX c).1.ex (u.body.getD .skip)) (u.body.getD .skip) k u.results.toList l b=f b:=by intro b;kernel_rfl):aE E ⟨a,k,l,f⟩:=
 aE.q g _ e (KV e i (by have:=d;simp only[a5] at this;exact this.1)) _ _ d h
def sV:aE E ⟨155,[.v dM],[js],ln⟩:=aN aM 0x1152c455ab261c7f4b3435b0c101a28f318a51a6c0d func155
def q9:aE E ⟨153,[.v .bool,.v dM],[bx],j7⟩:=aN (ar sV aM) 0x1835c319200d func153
def B5:aE E ⟨162,[.v aK],[bx],sj⟩:=aN (ar q9 aM) 0xf8124f00f3db5733a6c0d func162
def yZ:aE E ⟨149,[.v bx],[bx],o6⟩:=aN (ar q9 aM) 0xc558600d func149
def ra:aE E ⟨87,[],[bv],nO⟩:=aN aM 0xc08 func87
def qV (a:Int):eU:=⟨E.tt,[],[],14,[0]++(hm 0 [.v dL]++kW (g3 0 [.v dL])),[(0,.val dL a)]++[],[],g3 0 [.v dL],[],[],E.glob⟩
noncomputable def pt:Code:=Tryz.f222.body.getD .skip
def qW:Array Oper:=(rf 3 pt).getD #[]
def Bv:jP:=.two .none (.leaf) (.two .none (.two .none (.leaf) (.leaf)) (.leaf))
def yF:jP:=.keep [0] (.two .none (.leaf) (.two .none Bv (.two .none (.leaf) (.leaf))))
def sD (a:Int):aB:=⟨[(4,.val .bool (a==0)),(3,.val dL a),(2,.val aK 0),(0,.val dL a)],[]⟩
def Bu (a:Int):Exit->aB->Option (gi [.v dL] (iW [.int .i64])):=E4 E.tt [.v dL] [.tmp 2] [.int .i64] (a,())
def NM:pt=.seq (zn pt) (.seq (zn (Ir pt)) (.seq (.region 3 qW false) .ret)):=by kernel_rfl
def NP:qW.size=10:=by kernel_rfl
def NN (a:Int) (b:Exit->aB->Option e) (c:aB->Option e):fB (qV a) .leaf (zn pt) ⟨[(0,.val dL a)],[]⟩ e (vR (λd=>fB (qV a) Bv (zn (Ir pt)) d e (vR c b)) b)=bif a==0 then b .ret ⟨(2,.val aK 32)::(sD a).g,[]⟩ else c (sD a):=by kernel_rfl
def NJ (a:Int) (b:aB->Option e):iq (qV a) qW [0,1,2,3,4] (sD a) b=b ⟨(9,.val dL (IntKind.u32.wrap (bT IntKind.u32 a (IntKind.u32.wrap (0-a))*125613361)))::(8,.val dL (bT IntKind.u32 a (IntKind.u32.wrap (0-a))))::(7,.val dL (IntKind.u32.wrap (0-a)))::(6,.val dL a)::(5,.val dL a)::(sD a).g,[]⟩:=by kernel_rfl
def NK (a c d b:Int):iq (qV a) qW [5,6,7,8,9] ⟨(9,.val dL b)::(8,.val dL c)::(7,.val dL d)::(6,.val dL a)::(5,.val dL a)::(sD a).g,[]⟩ (Bu a .ret)=(db IntKind.u32 b 27).bind λe=>(aL mP e).bind λf=>some (IntKind.i64.wrap f,()):=by kernel_rfl
def NQ (a:Int):Bu a .ret ⟨(2,.val aK 32)::(sD a).g,[]⟩=some ((32:Int),()):=by kernel_rfl
def NO (a:Int) (c:eZ [.v dL]) (f g:Code) (b:Exit->aB->Option e) (h:c=(a,())):fB ⟨E.tt,[],[],14,hm 0 [.v dL]++kW (g3 0 [.v dL]),[],[],g3 0 [.v dL],[],[],E.glob⟩ yF (.seq f (.seq g (.seq (.region 3 qW false) .ret))) ⟨kC 0 [.v dL] c,kD 0 [.v dL] c⟩ e b=fB (qV a) .leaf f ⟨[(0,.val dL a)],[]⟩ e (vR (λd=>fB (qV a) Bv g d e (vR (λd=>iq (qV a) qW (List.range qW.size) d (b .ret)) b)) b):=by subst h;rfl
def NL (b:eZ [.v dL]):u7 ⟨E.tt,[],[],14,hm 0 [.v dL]++kW (g3 0 [.v dL]),[],[],g3 0 [.v dL],[],[],E.glob⟩ yF pt [.v dL] [.tmp 2] [.int .i64] b=sf b:=by obtain⟨a,⟨⟩⟩:=b;show fB _ yF pt _ _ (Bu a)=_;rw[NM,NO a _ _ _ _ rfl,NN,NP,show List.range 10=[0,1,2,3,4]++[5,6,7,8,9] from rfl,Bf,NJ,NK,NQ];exact Eq.refl (bif a==(0:Int) then some ((32:Int),()) else(db IntKind.u32 (IntKind.u32.wrap (bT IntKind.u32 a (IntKind.u32.wrap (0-a))*125613361)) 27).bind λc=>(aL mP c).bind λd=>some (IntKind.i64.wrap d,()))
def Jw:g5:=⟨222,[.v dL],[aK],sf⟩
def G4:aE E Jw:=
 aE.of (fn:=Tryz.f222) (rs:=[.tmp 2]) [] [] [] yF func222 (by kernel_rfl) (by kernel_rfl) (by kernel_rfl) call222 II (by intro a;exact NL a)
def GM:aE E ⟨150,[.v bx],[aK],nN⟩:=aN (ar G4 (ar sV aM)) 0x10024021b60061aa16f0a6c0d func150
def Cf:aE E ⟨96,[.v bx],[bx],si⟩:=aN (ar q9 aM) 0xc558600d func96
def Pz:aE E ⟨159,[.v dM,.v aK],[js],xY⟩:=aN aM 0x2fd00a912de711870ac773ef9214db060d func159
def GP:aE E ⟨160,[.v dM,.v aK],[js,.bool],uH⟩:=aN aM 0x614f4c61767eb710fe08fd87e0323167ca237bf1a98a5c17a7f224e8541bc559a5312616298cec1866b352774658e282429b060d func160
def Hn:aE E ⟨91,[.v bx],[bx],uF⟩:=aN (ar q9 aM) 0xc558600d func91
def Pw:aE E ⟨156,[.v dM,.v dM],[js],xV⟩:=aN aM 0x23988023a9faec3b45f1a9d20a16fd9c4dab20aca912de711870ac773ef9214db060d func156
def Px:aE E ⟨157,[.v dM,.v dM],[aK],xW⟩:=aN aM 0x620a429b060d func157
def Py:aE E ⟨158,[.v dM,.v dM],[js],uI⟩:=aN aM 0x17bb0017c6bb882a237ece26d59056547711870ac773ef9214db060d func158
def y4:aE E ⟨94,[.v bx,.v bx],[bx],o5⟩:=aN (ar Py (ar Px (ar Pw (ar sV (ar q9 aM))))) 0x87eec45f48a50c4d35ea66c30c9e16a837605d467d5b93c028393a4a49226da742b0e4b5741c7d1a4425335b38ac9ddf6ec6d73aa14fbcfefe8f838d623e950613abe741d88d1c5709c0f41a3bd5b492627075fd81041753060d func94
def GQ:aE E ⟨161,[.v bx,.v bx],[bx],uG⟩:=aN (ar y4 (ar Hn aM)) 0x47abc6ad8004bcf2b753060d func161
def y5:aE E ⟨95,[.v bx,.v aK],[bx],kG⟩:=aN (ar B5 (ar GQ (ar GP (ar Pz (ar q9 (ar yZ aM)))))) 0xcaf53489f2057710168d8556ac6329486eca222267d7d2d65d21ca8efbf21700b99aa9feb8968fe29e0c2b7cc4da53736a70e583dc212bdd729b060d func95
def GN:aE E ⟨151,[.v bx,.v aK],[bx],sm⟩:=aN (ar y5 aM) 0xe2205c936d94ccb18cf6de798ccc8a34c0d func151
def B8:aE E ⟨223,[.v dL],[aK],se⟩:=aN aM 0x2b0e785dc03968a07d3 func223
def GO:aE E ⟨152,[.v bx],[aK],uD⟩:=aN (ar B8 (ar sV aM)) 0x1875c758600d func152
def oc:aE E ⟨88,[.v bx,.v aK],[bv],kH⟩:=aN (ar Cf (ar ra (ar GO (ar GN (ar GM (ar yZ aM)))))) 0x724ba83b4017485488500e722ae3e16367b635a8a6db6db060d func88
def GK:aE E ⟨119,[.v aK],[bv],uK⟩:=aN (ar oc (ar B5 aM)) 0x30a00d func119
def pI:aE E ⟨90,[.v bv],[bv],j8⟩:=aN (ar oc (ar ra aM)) 0x18578600d func90
def sW:aE E ⟨93,[.v bx],[aK],lm⟩:=aN (ar yZ aM) 0xd func93
def G1:aE E ⟨214,[.v .bool,.v c6],[c6],nQ⟩:=aN aM 0x60d func214
def PT:aE E ⟨211,[.v .bool,.v aK],[c6],uO⟩:=aN (ar G1 aM) 0x9c2dc93060d func211
def Qh:aE E ⟨261,[.v bx,.v aK],[.bool],uE⟩:=aN (ar GP (ar sV aM)) 0x532006591f2d72d628060d func261
def Qi:aE E ⟨262,[.v .bool,.v aK,.v .bool,.v aK],[.bool],x2⟩:=aN aM 0xe2860d func262
def PU:aE E ⟨212,[.v .bool,.v bx,.v aK,.v .bool,.v aK],[bx],x0⟩:=aN (ar y4 (ar sW (ar Qi (ar Qh (ar B5 (ar GN (ar GM aM))))))) 0x3807c8b7a9c9b3668961efe0046c83a954908c31a270db6cf3584525828b7af36623b3c816a80161a18bfca935c86b03041ff1f9047b5c80affe17e6a536c48e2860d func212
def PV:aE E ⟨213,[.v bx],[aK,.bool],xT⟩:=aN (ar yZ aM) 0x5ae249aa233c940edbc72429b6c0d func213
def Pt:aE E ⟨141,[.v .bool,.v bx,.v aK,.v .bool,.v aK],[c6],x4⟩:=aN (ar y5 (ar G1 (ar PV (ar PU (ar PT (ar GO aM)))))) 0x22b3add0290828516648d1039f3c84119dcc4db6c48e2860d func141
def Hm:aE E ⟨81,[.v bv,.v aK],[c6],uN⟩:=aN (ar Cf (ar sW (ar pI (ar Pt aM)))) 0x19da07b2576fe1e0f0de891bd7f61ff15d7d51dcb46a6db060d func81
def Hl:aE E ⟨52,[.v aK,.v aK],[c6],qD⟩:=aN (ar Hm (ar GK aM)) 0x60d func52
def PF:aE E ⟨192,[.v aK,.v aK,.v aK],[.bool],xG⟩:=aN aM 0x2860d func192
def He:aE E ⟨269,[.v aK],[.bool],oZ⟩:=aN aM 0xd func269
def B9:aE E ⟨234,[.v aK,.v aK],[.bool],qw⟩:=aN (ar He aM) 0x60d func234
def P1:aE E ⟨242,[.v fH],[.bool],xL⟩:=aN (ar B9 aM) 0x30a5214c0d func242
def PG:aE E ⟨193,[.v ky],[.bool],xD⟩:=aN (ar P1 aM) 0x89168401d66b93f29e80930b3bf78f127d54e40fbd6eac4b248cdff8c5060d1e00b4c0d func193
def B1:aE E ⟨142,[.v c6],[aK,c6],r7⟩:=aN aM 0xd func142
def Cd:aE E ⟨84,[.v c6],[.bool],o0⟩:=aN (ar B1 aM) 0xd func84
def PI:aE E ⟨195,[.v c6],[.bool],Au⟩:=aN (ar Cd aM) 0xd func195
def P2:aE E ⟨243,[.v jt,.c 195 []],[aK],Aw⟩:=aN (ar PI aM) 0x3195177853060d func243
def PH:aE E ⟨194,[.v jt,.c 195 []],[.bool],xJ⟩:=aN (ar P2 aM) 0x60d func194
def yY:aE E ⟨121,[.v ky],[aK],o3⟩:=aN (ar PG (ar PF (ar PH aM))) 0x483600920a7b34c0d func121
def Ph:aE E ⟨122,[.v fH,.v aK],[hK,.bool],x9⟩:=aN aM 0x23c77e56d00647fd1d61649549b6abff84c188d32f8a2554b1020cf3dcc1d77269ed04fe9ab949db0f0a6db060d func122
def GW:aE E ⟨196,[.v ky],[oM],uu⟩:=aN aM 0xec1740ca8b5e9e93c588aef5307a40487df8decb96c7d388140c83212c38c63dac169e0af80c5dda3f3494ebde21bf45d879e23ce5ba59fb84722ac94c8b4af0a6c0d func196
def Ql:aE E ⟨270,[.v (.aV .dO lV)],[oM],Av⟩:=aN aM 0x60a00d func270
def Hd:aE E ⟨264,[.v aK,.v aK],[aK],r4⟩:=aN (ar He aM) 0x60d func264
def Qo:aE E ⟨273,[.v fH],[aK],wZ⟩:=aN aM 0x632a2d9d6f0a6c0d func273
def Qn:aE E ⟨272,[.v lV,.v lV],[aK],xF⟩:=aN (ar Qo (ar Hd aM)) 0x28e9fae0dd280def2b0df6a0133753060d func272
def QD:aE E ⟨297,[.m oM,.v aK,.v aK,.c 272 []],[],ux⟩:=aN (ar Qn aM) 0x1fdca31dde7cb0d8bf34bc3c1d304081ba01abde156dcc56a12968308e8d4d148233fc240beae1c265119b1fcee0193512ec062361d058528c369ed21e640c0613012180c2c38a1d func297
def Qw:aE E ⟨287,[.m oM,.v aK,.c 272 []],[],AA⟩:=aN (ar QD aM) 0x7829ba3655708d8741613cb0db19b0a09848e40d93620914769b0a1d func287
def Qm:aE E ⟨271,[.m oM,.c 272 []],[],Az⟩:=aN (ar Qw aM) 0x1d func271
def P3:aE E ⟨244,[.v (.aV .dO lV)],[oM],xE⟩:=aN (ar Ql (ar Qm aM)) 0x0 func244
def PJ:aE E ⟨197,[.v aK,.v aK,.v (.aV .dO lV)],[tM],xC⟩:=aN (ar P3 aM) 0x5a3f85b98bdf7eff56c4900496cc17a5459ca4c1389c3ca78ed9fdb796a7eddda72f06c44335785378b97734bce0410bbca212b7d64b107fd0f6d35eac33b7abac4c388988e1a1b885b6c43157869dc2f80b305468abaf6d2792356f8b81eaaaae1f1072831fb6bd57bf8332d71adbc1758d02cb63ee11911d7f2ac78a3301c727bd0ae51ed9585e0a97f9a8a37f63e3e95f1724ed8e712dd01241b00ae472df5b6b3faaceae5276f0a6c2860d func197
def Pj:aE E ⟨123,[.v ky],[tL,aK],xB⟩:=aN (ar PJ (ar GW (ar yY aM))) 0x3beb37f97f342f4fa2917b291440a89e8f546b1d5349e5d2da716dc66472bc48d07e89adecd2632bc29b6c0d func123
def GX:aE E ⟨198,[.v aK],[wv],uh⟩:=aN aM 0x79677a82d7ee11bcab853234f0a6c0d func198
def PK:aE E ⟨199,[.v ky],[oM],xA⟩:=aN (ar GW (ar yY aM)) 0x30580600d func199
def GY:aE E ⟨200,[.m wv,.v aK,.v aK],[],uk⟩:=aN aM 0x1b90811b875b96fba90abaafbe04f9b237bf78113530a1d func200
def P4:aE E ⟨245,[.v (.aV .dO (.aV .dO .bool)),.v aK],[hK],xj⟩:=aN aM 0x948004acb192e60c7711810d05f24c1bc29b060d func245
def GZ:aE E ⟨201,[.v (.aV .dO (.aV .dO .bool))],[zT],uj⟩:=aN (ar P4 aM) 0x3384dfc8aa712ada53cc49fdca8325d2f180e1ac57240657d8db9c29f047e2b4bfe5bb5632ad70cc90e5dc7c452cd240f0a6c0d func201
def Pk:aE E ⟨124,[.v ky],[mK,aK],ug⟩:=aN (ar GZ (ar GY (ar PK (ar GX (ar yY aM))))) 0x39f22550ff781f8719e6306c16e33de5b719964cffa114a1e02ab737b34a9bc29b6c0d func124
def PZ:aE E ⟨230,[.v fH,.v aK],[.bool],xk⟩:=aN aM 0x13f44846cbb9863e60a39d3c29b060d func230
def P0:aE E ⟨235,[.v aK],[.bool],xN⟩:=aN aM 0xd func235
def PE:aE E ⟨185,[.v fH,.v aK],[aK,.bool],xH⟩:=aN (ar P0 (ar B9 aM)) 0x1098cc9b28a3b4db060d func185
def G7:aE E ⟨231,[.v lW,.v aK,.v aK],[.bool],r8⟩:=aN (ar PE aM) 0xc8e02860d func231
def GV:aE E ⟨178,[.v lW],[aK],uf⟩:=aN (ar G7 (ar PZ aM)) 0x6afcc24fd40bed2a076cf69658e6c3a9308c83eeb40b7f36760e07f7730cdd4d51aa578536c0d func178
def P7:aE E ⟨248,[.v lW,.v aK],[.bool],xn⟩:=aN aM 0x3228060d func248
def QI:aE E ⟨311,[.v c6],[aK],ED⟩:=aN aM 0x2089c6502b625dc039d87d3 func311
def QF:aE E ⟨301,[.v c6],[aK],At⟩:=aN (ar QI aM) 0xd func301
def QG:aE E ⟨303,[.m hK,.v aK,.v aK],[],xM⟩:=aN (ar B9 aM) 0x38a4b03519c13a64e224dcdca5ab1d58671f6a6e5efc15ef57660e8f36506b24e15fd6d5d47412c43611215352028144b5ef00d873e014130d9eb4879003018400466030b0a1d func303
def QE:aE E ⟨300,[.m hK,.v aK,.v aK,.v aK],[],xO⟩:=aN (ar QG aM) 0xa037a2f31745800909a8451b130b0185b func300
def Qx:aE E ⟨289,[.m hK],[],uw⟩:=aN (ar QF (ar QE aM)) 0x0 func289
def Jx:g5:=⟨249,[.v fH],[.bool],xm⟩
def P8:aE E Jx:=Dp.Tg rfl (sort:=λd=>(uw (d,())).map λa=>a.1) (λe f b=>by obtain⟨a,c,rfl⟩:=dH.1 b;exact Qx.2 (e,()) a c)
def P6:aE E ⟨247,[.v aK,.v wz],[.bool],Ar⟩:=aN (ar P7 aM) 0x60d func247
def Qp:aE E ⟨274,[.v fH,.c 247 [wz]],[aK],Ax⟩:=aN (ar P6 aM) 0x3195177853060d func274
def P5:aE E ⟨246,[.v fH,.c 247 [wz]],[.bool],xK⟩:=aN (ar Qp aM) 0x60d func246
def PN:aE E ⟨202,[.v lW,.v fH],[aK],xi⟩:=aN (ar P8 (ar GV (ar P5 aM))) 0x3228060d func202
def PO:aE E ⟨203,[.v lW,.v fH],[mK],xl⟩:=aN (ar G7 (ar GZ (ar GY (ar GX aM)))) 0x30e44f7c57872ef24b7f0269f787b3d0ab0d917dfd2d3bf03770a54dcdfd4aab44e10616d60f396e8dc67bd46e45237a114a37717b64961143c29b060d func203
def Pl:aE E ⟨125,[.v lW,.v fH],[mK,aK],ui⟩:=aN (ar PO (ar PN aM)) 0x5c27228060d func125
def iT:aE E ⟨219,[.v dM],[dM],fJ⟩:=aN aM 0x1a28f318a51a6c0d func219
def ob:aE E ⟨220,[.v .bool,.v dM],[bx],iK⟩:=aN (ar iT aM) 0x19200d func220
def B2:aE E ⟨145,[.v aK],[bx],sa⟩:=aN (ar ob aM) 0xdf524f00f3db5733a6c0d func145
def Pu:aE E ⟨146,[.v c6],[.bool],xg⟩:=aN aM 0xd func146
def y0:aE E ⟨221,[.v dM],[js],qC⟩:=aN aM 0x8a00d func221
def B3:aE E ⟨147,[.v bx],[bx],o2⟩:=aN (ar y0 (ar ob aM)) 0x13efd1aa73c519fa4e0f047e9e9ffe2c0dd4c0d func147
def B6:aE E ⟨167,[],[bv],uc⟩:=aN aM 0xc08 func167
def PW:aE E ⟨215,[.v bx],[bx],xq⟩:=aN (ar y0 (ar ob aM)) 0x2e8ead1bdf62eff0bf10f98af03cb94add4c0d func215
def q8:aE E ⟨144,[.v bx],[aK],l6⟩:=aN (ar iT aM) 0x58600d func144
def G2:aE E ⟨216,[.v bx],[aK],uq⟩:=aN (ar G4 aM) 0x18db00319516d1e14c0d func216
def Hc:aE E ⟨263,[.v dM],[aK],sc⟩:=aN (ar B8 aM) 0xd func263
def vA:aE E ⟨217,[.v bx],[aK],nL⟩:=aN (ar Hc (ar iT aM)) 0x58600d func217
def Ca:aE E ⟨266,[.v dM,.v aK],[dM],qB⟩:=aN (ar iT aM) 0x17d61a98816400461dc91aca8599e2f0a6db060d func266
def Qv:aE E ⟨284,[.v dL],[.bool],As⟩:=aN aM 0xd func284
def QC:aE E ⟨296,[.v dM,.c 284 []],[aK],Ay⟩:=aN (ar Qv aM) 0x3195177853060d func296
def Qu:aE E ⟨283,[.v dM,.c 284 []],[.bool],uv⟩:=aN (ar QC aM) 0x60d func283
def Cb:aE E ⟨267,[.v dM,.v aK],[dM,.bool],sb⟩:=aN (ar iT (ar Qu aM)) 0x60c80961156027764718e7622aa93a37fab0b3189b34975aa7f65628436c8eb47c8319eb684db060d func267
def y1:aE E ⟨225,[.v dM,.v dM],[dM],qA⟩:=aN (ar iT aM) 0xdb4c17e13ab00475450f87f154f8d4e90b822cbf67136a692a64acb79d79b0e0d1f444529287d3 func225
def G6:aE E ⟨228,[.v bx,.v aK],[bx,aK],nM⟩:=aN (ar Cb (ar Ca (ar y1 (ar ob (ar iT aM))))) 0x2c0d40b5cc6a918322e878b0eb6ae3f9e74aecb10ad4f50c1e4140483ac0b923078ab8f6cc6453060d func228
def G3:aE E ⟨218,[.v bx,.v aK],[bx],ud⟩:=aN (ar G6 aM) 0xe2205c936d94ccb18cf6de798ccc8a34c0d func218
def sU:aE E ⟨143,[.v bv],[bv,.bool],l5⟩:=aN (ar G3 (ar vA (ar G2 (ar PW (ar B6 (ar q8 aM)))))) 0xe88e9c99fe06e34bc272efdf39dec77aaf10f35ee489710341c5335c7b6c3cc66684b4db6c0d func143
def B4:aE E ⟨148,[.v bx,.v aK],[bv],r5⟩:=aN (ar sU aM) 0x316625628060d func148
def Ce:aE E ⟨86,[.v c6],[bv],o1⟩:=aN (ar B4 (ar B3 (ar Pu (ar B2 (ar B1 aM))))) 0x3925ad02e9096dc6661720c3db6f513426c0d func86
def QO:aE E ⟨55,[.v ky,.v fH],[(.ptr .bn (.st (.pr aK (.pr mK (.pr (.aV .bn (.dh .bn bv)) .nil))))),aK],qE⟩:=aN (ar Ce (ar Pl (ar Pk (ar Pj (ar Ph (ar yY aM)))))) 0x5018ebc57ea0902a45a7cc45e36a3ac811f9068bec82dff05718c2185f10c5f50d55348bd1b852b5946e8f1b0af97b85a37415b76eb4e235de891685622e87727a516d9159625c79f0d93ab6172956de91f65cb77e91f2f00eea715b5c3bcd3fc925964538d473c8cb923e4cb4e51618c985f8c14fae491d978b4fb45d4b0aba88dd274cdd4b44d0b55f578d602ddfa21edc28a626132d9ede1c31fd9acfec65d79dbfe48f0de891be3091fd7d51dcb46a6db6db060d func55
def P9:aE E ⟨250,[.v aK],[zU],xc⟩:=aN aM 0x68d7626d24822e31fd43e4326bacbf4e8bf597f58df681426d59dbd0e0d48b8c7c64869ac3a658c901c6f3f61b0b5cd8c1d14d6b674875b70b28b0a01cf77dd99b15878fc33420c422cf77308e3742e96481d4c0d func250
def Qa:aE E ⟨251,[.m zU,.v aK,.v aK],[],xb⟩:=aN aM 0x10aa361dd57420b1c2412870768180c209e020b01842d func251
def PP:aE E ⟨204,[.v lW],[hK,aK],xa⟩:=aN (ar Qa (ar P9 (ar GV aM))) 0x1d466601902817f76158a465eac1030d40260f396e658ec771187691065f282f3c29b6c0d func204
def PQ:aE E ⟨205,[.v lW,.v fH,.v aK],[hK],x7⟩:=aN aM 0x225043b669c4499da18b9f643cdc74344c191a33ea0dee0326236e33dd1436c91920c1020ac08078a563de23b93b2dd37200239ee30d652a778536c2860d func205
def Pm:aE E ⟨126,[.v lW],[(.osl hK),aK],x6⟩:=aN (ar PQ (ar PP aM)) 0x101196d36b51336cff5910c333012d59261ba019892397cd1e265807109cb7733ce5b9a17baee462ca503194a1db2bc29b6c0d func126
def QP:aE E ⟨56,[.v wy],[zX],wT⟩:=aN (ar Pm aM) 0x1160fb55c1e64d7b0b588c29a96939950f04feaf6836831a03e100d15c59b298d3c951c2c226d4e4639c6ce0d8918375971392b3ded1dbe3bbe6f83d55db0e37a775572af01c1f8c6eed0dbb3ab93eb215386baa85b886d17f0e4b8cffe672546f7f580e701e7f503b73dc884fed3c1b49bf652cf4b6d60f8585b7691ff9200c69dd4bb97fb77d598790361505d50e25506b82d7e67e6159e8146b3d057588e23ad515c6bac781da231d283e06ea6c0d func56
def Pd:aE E ⟨107,[.v wy,.v aK,.v aK],[bv],x8⟩:=aN aM 0x31a02860d func107
def PC:aE E ⟨166,[.v bv,.v bv],[bv,bv,.bool],w9⟩:=aN (ar sU aM) 0x2c8262799e875a6bde98b8a9221192db268d4db060d func166
def PX:aE E ⟨224,[.v dM,.v dM],[dM],xy⟩:=aN (ar iT aM) 0x1eb3a11e0206afe4be3ec9734be5fb29993a2a0976f654c3424c58965faca692a303fe3afed168f9093060d func224
def GR:aE E ⟨168,[.v bx,.v bx],[bx],uo⟩:=aN (ar PX (ar ob (ar iT aM))) 0x2b0d18995bb3d89730d0333753060d func168
def Pb:aE E ⟨103,[.v bv,.v bv],[bv],w2⟩:=aN (ar GR (ar B6 (ar PC (ar B4 aM)))) 0x2558c8dcf458a3e3451a4b25b4863e7fafcb8d249ad23fafaa3b968d4db060d func103
def PD:aE E ⟨173,[.v bv],[bv],w3⟩:=aN (ar B3 (ar sU aM)) 0x123c030f612331ba6c0d func173
def vy:aE E ⟨170,[.v bx,.v aK],[bx],l4⟩:=aN (ar G6 aM) 0x648060d func170
def Qt:aE E ⟨282,[.v dL],[.bool],w1⟩:=aN aM 0xd func282
def Qj:aE E ⟨265,[.v dL,.v dL],[aK],wY⟩:=aN (ar Qt aM) 0x60d func265
def y2:aE E ⟨226,[.v dM,.v dM],[aK],qz⟩:=aN (ar Qj (ar Hd aM)) 0x620a429b060d func226
def G5:aE E ⟨227,[.v dM,.v dM],[dM],sd⟩:=aN (ar iT aM) 0x547b594e4017c6c5a80b1171bf67136b342e6547711870dc773ef92c25e14db060d func227
def B7:aE E ⟨169,[.v bx,.v bx],[bx],qy⟩:=aN (ar G5 (ar y2 (ar y1 (ar ob (ar iT aM))))) 0x2ba375b6e655421c0bf15ec412370d6777027b00ff919578eb969b060d func169
def Pc:aE E ⟨104,[.v (.aV .dO bv)],[bv],w8⟩:=aN (ar vy (ar B7 (ar B6 (ar B4 (ar sU aM))))) 0xae16fe1637b94b5fb0041f497ecf81bd62c5e6f49050a76ef246bf1388da6aa08f337cf3dc03878579c75592d3623c0711d75a68025b3be199366ab0facb4a59a4a4678536c0d func104
def Pn:aE E ⟨127,[.v (.ptr .dO (.st (.pr (.aV .dO fH) (.pr (.aV .dO jt) (.pr (.aV .dO (.dh .dO bv)) (.pr (.aV .dO fH) .nil)))))),.v wy,.v aK,.v aK],[bv],ua⟩:=aN (ar PD (ar Pd (ar Pc (ar Pb aM)))) 0x2986522e5e610db675a585258b404fc7b46efce8f0eb8641dfb0812c0de7089ae6f14d9cfd59896d0b309cc752624cedcf358bab7619a49a48f3e59a2476f12a16bc29b0e2860d func127
def y3:aE E ⟨85,[.v bv],[aK],nK⟩:=aN (ar q8 (ar sU aM)) 0xd func85
def GJ:aE E ⟨106,[.v bv],[bv],r6⟩:=aN (ar sU aM) 0x30a00d func106
def Qz:aE E ⟨292,[.v dM,.v dL],[dM,dL],xx⟩:=aN (ar iT aM) 0x9630b9c40ad9326b91873b2776f29214db060d func292
def QA:aE E ⟨293,[.v dL],[aK],xz⟩:=aN (ar B8 aM) 0xd func293
def Jy:g5:=⟨294,[.w dL,.v dM],[dL],ur⟩
def QB:aE E Jy:=
 .q aM (.k [1] (.n (.n (.t .none (.d [.b [0],.a,.b [0],.b [0],.a,.a,.b [0],.a,.a,.b [0],.b [0],.a,.a,.a]) (.n (.t .none (.o (.k [5] (.p ⟨[(0,.w 0),(7,.v c6),(8,.v c6)],[(0,js)]⟩ (.x 0 ⟨[(0,.w 0),(7,.v c6)],[(0,js)]⟩) (.t (.rr [7,8] ⟨[(0,.w 0)],[(0,js)]⟩) (.t .none (.d [.a,.a,.a,.a,.a,.a,.a,.a,.a,.a,.a,.a,.a,.b [0],.a,.a,.b [0],.b [0],.a,.a,.a,.a]) .l) .l)))) (.n (.t .none (.n (.o (.k [5,7,84,85] (.p ⟨[(0,.w 0),(9,.v c6),(10,.v c6),C1 86],[(0,js)]⟩ (.x 2 ⟨[(0,.w 0),(9,.v c6),(10,.v c6)],[(0,js)]⟩) .l)))) (.n (.n (.n (.n (.t .none (.n (.o (.k [5,7,140,141] (.p ⟨[(0,.w 0),(9,.v c6),C1 142],[(0,js)]⟩ (.x 4 ⟨[(0,.w 0),(9,.v c6)],[(0,js)]⟩) .l)))) .l))))))))))))) func294 call294
def Hf:aE E ⟨280,[.v dM,.v dM],[dM,dM],us⟩:=aN (ar QB (ar QA (ar Qz (ar Cb (ar Ca (ar y2 (ar y0 (ar iT aM)))))))) 0x18aeeeee0614f762e5dd2c918b4d25c40bf549368a461fe36e53e6c922f3a78536db6db060d func280
def Qr:aE E ⟨279,[.v dM],[dM],xw⟩:=aN (ar Hf (ar Cb (ar Ca (ar Hc (ar y2 (ar y1 aM)))))) 0x8a302e3b0b6c0d func279
def Qf:aE E ⟨257,[.v bx],[bx,aK],xu⟩:=aN (ar Qr (ar ob (ar iT (ar q8 aM)))) 0xc558600d func257
def GU:aE E ⟨175,[.v bx,.v bx],[aK],um⟩:=aN (ar y2 (ar iT (ar q8 aM))) 0xb1d628060d func175
def PR:aE E ⟨207,[.v bv,.v aK],[mL],w7⟩:=aN (ar Qf (ar vA (ar GU (ar vy (ar GR aM))))) 0x2135fda374ea4603644e2c5d1b68c241671428ff74fd108ca368163209b060d func207
def Qb:aE E ⟨252,[.v mL],[aK],w5⟩:=aN (ar vA aM) 0x19e0600d func252
def Qy:aE E ⟨291,[.v bx,.v bx],[bx],xv⟩:=aN (ar B7 aM) 0x325628060d func291
def Qq:aE E ⟨278,[.v mL,.v aK],[bx,aK,.bool],ub⟩:=aN (ar Qy (ar G3 (ar vA (ar GU (ar vy (ar B2 (ar q8 aM))))))) 0x15822ed174d26dfd831e323133f662829d80b3eca42eebafa2c53c00f0fdbddf7b7bff50820b4cea6db060d func278
def Qd:aE E ⟨254,[.v mL,.v aK,.v aK],[bx],w6⟩:=aN (ar Qq (ar G2 (ar vy (ar B7 (ar B3 (ar B2 (ar q8 aM))))))) 0x3e334031969d38a98e7bb527a8a141cf3ec73866b2c881059210bc876c57f815cc2e41f6be7639f26ae4cb26c2860d func254
def GS:aE E ⟨171,[.v bx],[bx],r9⟩:=aN (ar y0 (ar ob aM)) 0x14d0c558600d func171
def Qc:aE E ⟨253,[.v bx],[aK,.bool],xp⟩:=aN (ar iT aM) 0xa7c641ea3f1d2d07444cbdff54d8852951b13b8897972bc29b6c0d func253
def Ha:aE E ⟨255,[.v c6,.v .bool],[c6],qx⟩:=aN aM 0x60d func255
def Qe:aE E ⟨256,[.v .bool,.v aK],[c6],xh⟩:=aN (ar Ha aM) 0x9c2dc93060d func256
def G0:aE E ⟨206,[.v mL,.v aK],[c6],ue⟩:=aN (ar Qe (ar Ha (ar Qd (ar Qc (ar Qb (ar GS aM)))))) 0x13687806f3e04826db060d func206
def Po:aE E ⟨128,[.v bv,.v aK],[c6],xf⟩:=aN (ar y3 (ar PR (ar G0 (ar GJ aM)))) 0x92e28966b99878d09b060d func128
def Pp:aE E ⟨129,[.v c6],[aK],xd⟩:=aN (ar B1 aM) 0x12bf69059a6c0d func129
def Qg:aE E ⟨258,[.v bx,.v bx],[bx,bx,aK],xo⟩:=aN (ar Hf (ar G5 (ar y1 (ar ob (ar iT aM))))) 0xf788e0b91f142043b401748e4882c0e722a5ad958f85ee0bd25cf7b632a826db060d func258
def PS:aE E ⟨208,[.v bv,.v bv,.v aK],[mL],w4⟩:=aN (ar Qg (ar vA (ar GS (ar vy (ar q8 aM))))) 0x22c85df5d481842180f66dee4a1f0d6701da11a33e060d970ef81ccfc0ebba803338937a0666ea6c2860d func208
def Pq:aE E ⟨130,[.v bv,.v bv,.v aK],[c6],xe⟩:=aN (ar y3 (ar PS (ar G0 (ar GJ aM)))) 0x13e836fa0a0cfaacc66bcf0792d67b8db2a141d202d2ede8d4c2860d func130
def QQ:aE E ⟨57,[.m zX,.v wy,.v aK],[aK],wU⟩:=aN (ar Ce (ar y3 (ar Cd (ar Pq (ar Pp (ar Po (ar Pn aM))))))) 0x10dba1f4f8120edd9dd30cabe8f167b36f9310f1a79b81e72859856af8bde2e4064de8cafd1ba07885c796edaa2c2aaeab745d75709c4daa3f07fbd45c06ea6b5baea9f5d231bf074d238349ac677c72d36fa6d387b62a21c9147023e35f9052f32241b042c78836d7adeb617cefd71c4ff3c3ad1fc6c6bf65dcb38fca0d4a81e02593194aaa9146b1f377ed4d0d4e9f095da41e46e07ff67db8e798b821b8d79027c1b2ac4ce8e1368113536db0a1d func57
def Pr:aE E ⟨131,[.v fH],[hK],xI⟩:=aN aM 0xa00d func131
def QR:aE E ⟨58,[.v (.ptr .dO (.st (.pr (.aV .dO fH) (.pr (.aV .dO jt) (.pr (.aV .dO (.dh .dO bv)) (.pr (.aV .dO fH) .nil)))))),.v fH],[zW],wV⟩:=aN (ar Pr aM) 0x2a7248e2604f0c572d41781da2b1a0a740520ee9c86d6dc0e2a353b6ca3e39d2fe3c1ce0655b25ac4c49c1edabeb72052defcaa3c7251f51e9622ec026a710f0301e2263807d473896eb1d0346e4523da2b37897b6497bc29b060d func58
def GL:aE E ⟨13,[.v ky,.v fH],[wu,aK,aK],oY⟩:=aN (ar QR (ar QQ (ar QP (ar QO aM)))) 0x1fbe16e4870ccc41ea4cfd424f281beac4f8e4997cc5df35cf888926775ba7ae0c492452747acb602a9db64a96ef0a6db060d func13
def PM:aE E ⟨20,[.v fH,.v fH],[.bool],xQ⟩:=aN aM 0x620a429b060d func20
def QM:aE E ⟨53,[.v jt,.v jt],[.bool],AC⟩:=aN aM 0x620a429b060d func53
def Pe:aE E ⟨11,[],[.bool],uC⟩:=aN (ar QM (ar Hl (ar PM (ar GL aM)))) 0x846c8d71aa48 func11
def vz:aE E ⟨21,[.v aK,.v aK],[aK],o4⟩:=aN aM 0x60d func21
def Hk:aE E ⟨50,[.v jt,.v aK],[c6],uB⟩:=aN (ar vz aM) 0x6e1e9b060d func50
def Cc:aE E ⟨67,[.v c6],[.bool],sn⟩:=aN aM 0xd func67
def PB:aE E ⟨164,[.v c6],[c6],AB⟩:=aN (ar Hl aM) 0xd func164
def QZ:aE E ⟨99,[.v c6,.v aK],[c6],sh⟩:=aN (ar Cc (ar vz (ar PB aM))) 0x60d func99
def Hj:aE E ⟨35,[.v jt,.v aK,.v aK,.v aK],[tM],sg⟩:=aN (ar QZ (ar Hk aM)) 0x26ad61a2fcac6d0c69be866cc52f25329f615a8be79998210665d9838131ef3304dd9cca493b561651c66f257d796a5e442809229a9e7525c0185c46280f5597b88b6ecd9611b603685a49a48d5e6b9be76f12429b0e2860d func35
def Ps:aE E ⟨135,[.v jt],[.bool],x5⟩:=aN (ar Cc aM) 0x30a5214c0d func135
def QT:aE E ⟨68,[.v ky],[aK],uP⟩:=aN (ar Ps aM) 0x9a39549089a231007afee5752252d7622a0dbbe989d68087900b4c0d func68
def G9:aE E ⟨25,[.v ky,.v aK,.v aK],[c6],nR⟩:=aN (ar QT aM) 0xd97a01285e44d1e0174c2860d func25
def QW:aE E ⟨89,[.v c6],[.bool],x3⟩:=aN aM 0xd func89
def G8:aE E ⟨24,[.v c6],[bv],nP⟩:=aN (ar QW (ar oc (ar ra (ar Cc aM)))) 0xb408ad23c030f40edbcce9b6c0d func24
def Hh:aE E ⟨30,[.v bv],[bv],sk⟩:=aN (ar Cf (ar pI (ar oc aM))) 0x4de366eff100be544f8a38b13e96ed3a3536c0d func30
def Hg:aE E ⟨29,[.v (.aV .dO bv)],[bv],sl⟩:=aN (ar y5 (ar y4 (ar sW (ar pI (ar oc (ar ra aM)))))) 0xb7cf6e54984aea9210928e66e011d75fc8a7de57582f9a31366ed12770aca57b3c6bfa63105d72461b95c03fc6fdddffa3e1cdd6a1b289b12046d33a0738ba394a01c46ce9335ed77004b677c33263d561e81694b3490a6c0d func29
def Pg:aE E ⟨120,[.v ky,.v aK,.v aK],[.bool],uQ⟩:=aN aM 0xd97a01285e44d1e0174c2860d func120
def QN:aE E ⟨54,[.v jt,.v aK,.v aK],[tM],uy⟩:=aN (ar Hm (ar Hj (ar Hh (ar Hg (ar G9 (ar G8 (ar vz (ar Pg (ar GK aM))))))))) 0x2c152ce85947ce4441db1e68240c8d19f5e0f4096b122cc59bf403a2d08a47d35de1ac1c9ed39d8428c880ea8385f17e1eb9a09162c22f2b490685eefb21424e59b36608ef5908c976139c785bfe1e7e0f395aab11a0adf7fa60afdf555f0696a77a9493cbe8ac2b87a970ad3a70db7dd45c81d04d1407c4b3cfe8f986501359c5f77ac0799bc6c90eef740c449333ecedafa526540666a44f515e8c62ac37611b602d836255c8d5ceb6d6770e1d5ca48536c2860d func54
def QL:aE E ⟨51,[.v jt,.v aK],[gH],uz⟩:=aN (ar Hk (ar vz aM)) 0x234ec7fd7f431f4037f42bce11987e021f92218c37bd4e5bee93d36ad1574e1189dd0058e85a1536b71dbe925704be32809846be9bf06b27a6e88228e95f2d63e765464c94d222429b060d func51
def Pf:aE E ⟨12,[.v jt,.v aK,.v aK,.v .bool],[tL,gH],xR⟩:=aN (ar QN (ar QL (ar Hj (ar vz aM)))) 0x603d08fff807a11ffe00e22038a0d func12
def Pv:aE E ⟨154,[.v dM,.v dM],[js],xX⟩:=aN aM 0x5ab3db07df9059af0aa155ed3d69cd6217c4d7541437f30f8b4a62d114a2c312d6547711870a65f2429b060d func154
def QX:aE E ⟨92,[.v bx,.v bx],[bx],xU⟩:=aN (ar sV (ar Pv (ar q9 aM))) 0xe288c107e39c112656ecf62607a8de5b2b231883fd56f8c90554506d1a3ed3dbbe84c73753060d func92
def Qk:aE E ⟨27,[.v bv,.v bv],[bv],uL⟩:=aN (ar QX (ar pI (ar oc (ar ra aM)))) 0xb37795bb476fb40cb0a149fd406ed9753694f65056bb3569f4da3886e423d06df02b302d7e52b191579fab59a437650dbc569171ac7ba4ba5a353060d func27
def Hb:aE E ⟨26,[.v bv],[bv],uM⟩:=aN (ar Hn (ar pI (ar oc aM))) 0x4de366eff100be544f8a38b13e96ed3a3536c0d func26
def PA:aE E ⟨163,[.v bx,.v bx],[aK],xS⟩:=aN (ar sW (ar GQ aM)) 0xb1d628060d func163
def QJ:aE E ⟨33,[.v bv,.v aK],[bv],o7⟩:=aN (ar sW (ar pI (ar oc (ar ra aM)))) 0x3e2c814f8d4ffd8eece3f7ece22f9aa404a912e3078a66b8c6d8798cd09b060d func33
def QU:aE E ⟨82,[.v fH],[.bool],wW⟩:=aN aM 0x432840425ebe0e4510fca803730d3ab114c8ffaf0a6c0d func82
def QV:aE E ⟨83,[.v wx],[.bool],wX⟩:=aN aM 0x423ba845bb2afca92a3024ca29c74a5927dbfbbfc1a3c02a5a6c0d func83
def PY:aE E ⟨23,[.v wx],[aK],wS⟩:=aN (ar Ce (ar y3 (ar Cd (ar QV (ar QU aM))))) 0xb09f16a766e7cf31e8d88a8875dbfa57044117e89d6809a7de922c2a5a6c0d func23
def Qs:aE E ⟨28,[.v wx,.v aK,.v aK],[c6],uA⟩:=aN aM 0x45cfc00c5942de14c2860d func28
def Ho:aE E ⟨97,[.v bv,.v bv],[bx,bx,aK],o8⟩:=aN (ar y5 (ar sW aM)) 0x424c9850bce04b6779195ff90dc071a6612a8f965f213bd417b6307c71a00e450883615928d97be4f301841b0d8c0fb737e2abf97673addc1efa06161f4793c1b95b1df7b488a0d4fff140f2e52b753060d func97
def Hi:aE E ⟨32,[.v bv,.v bv],[bv],uJ⟩:=aN (ar Ho (ar y4 (ar pI (ar oc (ar ra aM))))) 0xf6659f6107d7d06df02b69d7be52b191579fab59a437650dbc569171ac7ba4ba5a353060d func32
def QH:aE E ⟨31,[.v bv,.v bv],[bv],x1⟩:=aN (ar Hi (ar Hb aM)) 0x8c0f2c1a0004bcf2b753060d func31
def QY:aE E ⟨98,[.v bv,.v bv],[aK,.bool],xZ⟩:=aN (ar Ho (ar pI (ar PA aM))) 0x7c667e725e0e056f9fa65631f7ab4cc7650dbc569171ac7ba4ba5a353060d func98
def QK:aE E ⟨34,[.v bv,.v bv],[.bool],xP⟩:=aN (ar QY aM) 0xf1de28060d func34
def rC:g5:=⟨6,[.v jt,.v aK,.v aK],[.bool],AD⟩
def QS:aE E rC:=aN (ar QK (ar QJ (ar Hi (ar QH (ar Hh (ar Hg (ar Qs (ar Qk (ar Hb (ar G9 (ar G8 (ar PY (ar GL (ar Pf (ar Pe aM))))))))))))))) 0x95f168b3b466d516229fd8e255de30b741ba10850c46f693324f314b3bd7f380b306f6acf2a132d68482ef8219307f51cb3e3d3bb29d8b0e843e6cc7f84c36bc08c46cb34c9d3fc396a5f76da809d5bbbc0a1e39c75bd12b2d9724a8e6fc1301cd03c7c574afa1532b3f8576cddacf1d05e82e569d168a8a06096224a11d144bd93ea3c471c468815418c88ca0c8fc9e154de1987081388ce153db07fce005e425e8e636f53f58de7aceeead44d276f3c5d3e8701b8f407330e9f02fa33c0c8fa0fbc924a0217f0260070059ff22b338758c41296e3a22fb260b4f68f0e7b45adbab6a9b6c2860d func6
end
def aF (a:Nat):Int:=4294967296^a
def ae:cP->Int
 |[]=>0
 |x::a=>x+4294967296*ae a
def aH (b:cP):Prop:=∀a∈b,0<=a/\a<4294967296
def aH.nil:aH []:=λ_ a=>by cases a
def aH.cons:aH (d::c)↔(0<=d/\d<4294967296)/\aH c:=by
 constructor
 ·exactλe=>⟨e d (lR ..),λb a=>e b (eJ _ a)⟩
 rintro⟨f,g⟩ b a;rcases dk.1 a with rfl|a
 ·exact f
 exact g b a
def aH.append:aH (c++m)↔aH c/\aH m:=by
 constructor
 ·exactλd=>⟨λb a=>d b (lQ _ a),λb a=>d b (ku _ a)⟩
 rintro⟨e,f⟩ b a;rcases eI.1 a with a|a
 ·exact e b a
 exact f b a
def aH.snoc (a:aH c) (b:0<=d) (e:d<4294967296):aH (c++[d]):=
 aH.append.2 ⟨a,aH.cons.2 ⟨⟨b,e⟩,aH.nil⟩⟩
def aH.take {a:cP} (b:aH a) (d:Nat):aH (a.take d):=λe c=>b e (List.mem_of_mem_take c)
def aH.drop {a:cP} (b:aH a) (d:Nat):aH (a.drop d):=λe c=>b e (List.mem_of_mem_drop c)
def aH.ko (b:Nat):aH (List.replicate b (0:Int)):=λc a=>by obtain⟨_,rfl⟩:=List.mem_replicate.1 a;exact⟨jT _,aa⟩
def aH.set {c:cP} (d:aH c) {g:Nat} {b:Int} (e:0<=b) (f:b<4294967296):aH (c.set g b):=λh a=>by
 rcases List.mem_or_eq_of_mem_set a with a|rfl
 ·exact d h a
 exact⟨e,f⟩
def aH.get (a:aH c) {n:Nat} (b:n<c.length):0<=c[n]/\c[n]<4294967296:=a _ (dj b)
def ev (a:Nat):0<aF a:=i9 aa
def fO (a:Nat):aF (a+1)=4294967296*aF a:=by unfold aF;rw[Int.pow_succ,gG]
def rB (a b:Nat):aF (a+b)=aF a*aF b:=iC ..
def tp:aF 0=1:=rfl
theorem mx (a b:cP):ae (a++b)=ae a+aF a.length*ae b:=by
 induction a with
 |nil=>simp[ae,tp]
 |cons d a c=>
  simp only[h3,ae,g8,fO,c];grind
def nj (a:cP) (b:Int):ae (a++[b])=ae a+aF a.length*b:=by rw[mx];simp[ae]
def dY {l:cP} (a:aH l):0<=ae l:=by
 induction l with
 |nil=>exact jT _
 |cons c l b=>
  have a:=aH.cons.1 a;have:=b a.2;simp only[ae];omega
def fq (a:aH c):ae c<aF c.length:=by
 induction c with
 |nil=>decide
 |cons d c b=>
  have a:=aH.cons.1 a;have:=b a.2;simp only[ae,g8,fO];omega
def fU (b:a<c.length):ae (c.take (a+1))=ae (c.take a)+aF a*c[a]:=by rw[j1,bA b];show ae (c.take a++[c[a]])=_;rw[nj,eD,fW U]
def nk (b:cP) (a:Nat) (c:a<=b.length):ae b=ae (b.take a)+aF a*ae (b.drop a):=by
 conv=>lhs;rw[<-kv a b]
 rw[mx,eD,fW c]
def jl (b:a<c.length):ae (c.drop a)=c[a]+4294967296*ae (c.drop (a+1)):=by rw[List.drop_eq_getElem_cons b];rfl
def ow (a:Nat):ae (List.replicate a (0:Int))=0:=by
 induction a with
 |zero=>rfl
 |succ a b=>simp only[List.replicate_succ,ae,b];rfl
theorem k2 (b:a<c.length) (d:Int):ae (c.set a d)=ae c+aF a*(d-c[a]):=by
 induction c generalizing a with
 |nil=>simp at b
 |cons f c e=>
  cases a with
  |zero=>simp only[List.set_cons_zero,ae,tp,List.getElem_cons_zero];grind
  |succ a=>
   simp only[List.set_cons_succ,ae,List.getElem_cons_succ,fO];rw[e (by simpa using b)];grind
def qK:Nat->Nat->cP
 |0,_=>[]
 |f+1,a=>if a=0 then[] else((a %4294967296:Nat):Int)::qK f (a/4294967296)
def bI (a:Nat):cP:=qK (Nat.log2 a+1) a
def dq (b:cP):Prop:=∀a,b.getLast?=some a->a≠0
def LN:∀{a n:Nat},n<2^a->aH (qK a n)/\ae (qK a n)=n/\dq (qK a n):=by
 intro a
 induction a with
 |zero=>
  intro n b;obtain rfl:n=0:=(by simpa using b);exact⟨aH.nil,rfl,λf b=>by cases b⟩
 |succ a j=>
  intro n b;unfold qK;split
  ·rename_i h;subst h;exact⟨aH.nil,rfl,λf b=>by cases b⟩
  rename_i k;obtain⟨i,d,g⟩:=j (n:=n/4294967296) (by rw[hI] at b;omega);refine⟨aH.cons.2 ⟨⟨U,U⟩,i⟩,?_,?_⟩
  ·simp only[ae,d];omega
  intro f c;cases e:qK a (n/4294967296) with
  |nil=>
   rw[e] at c d;simp only[ae] at d;simp only[List.getLast?_singleton,bH] at c;omega
  |cons m l=>
   rw[e,List.getLast?_cons_cons] at c;rw[e] at g;exact g f c
def AK (a:Nat):aH (bI a)/\ae (bI a)=a/\dq (bI a):=LN Nat.lt_log2_self
def ij (a:Nat):aH (bI a):=(AK a).1
def iL (a:Nat):ae (bI a)=a:=(AK a).2.1
def ls (a:Nat):dq (bI a):=(AK a).2.2
def dq.tail (b:dq (d::c)):dq c:=λe a=>by
 cases c with
 |nil=>cases a
 |cons f c=>exact b e (by rw[List.getLast?_cons_cons];exact a)
def dq.zero (e:aH c) (b:dq c) (d:ae c=0):c=[]:=by
 induction c with
 |nil=>rfl
 |cons h c g=>
  obtain⟨⟨i,j⟩,a⟩:=aH.cons.1 e;have k:=dY a;simp only[ae] at d;have f:h=0:=U;have:=g a b.tail U;subst this;subst f;exact absurd rfl (b 0 rfl)
def dq.uniq:∀{a b:cP},aH a->aH b->dq a->dq b->ae a=ae b->a=b
 |[],b,_,e,_,g,c=>(dq.zero e g (by rw[<-c];rfl)).symm
 |a,[],d,_,f,_,c=>dq.zero d f (by rw[c];rfl)
 |x::a,k::b,d,e,f,g,c=>by obtain⟨⟨l,m⟩,h⟩:=aH.cons.1 d;obtain⟨⟨n,o⟩,i⟩:=aH.cons.1 e;simp only[ae] at c;have j:x=k:=U;have:=dq.uniq h i f.tail g.tail U;rw[j,this]
def LQ (b:aH c) (d:dq c) (e:ae c=a):c=bI a:=
 dq.uniq b (ij a) d (ls a) (by rw[e,iL])
def dq.eq (a:aH c) (b:dq c):c=bI (ae c).toNat:=
 LQ a b (by have:=dY a;omega)
def dq.low (b:aH c) (f:dq c) (a:c≠[]):aF (c.length-1)<=ae c:=by have d:=List.dropLast_concat_getLast a;have i:=f (c.getLast a) (List.getLast?_eq_some_getLast a);have j:=b _ (List.getLast_mem a);rw[<-d,nj];have k:=dY (l:=c.dropLast) (λh g=>b h (List.dropLast_subset _ g));have e:1<=c.getLast a:=U;have m:=i7 e (eb (ev c.dropLast.length));simp only[jZ,List.length_singleton,tF];omega
theorem Rw (e:a<b):aF a<aF b:=by obtain⟨c,rfl⟩:∃c,b=a+(c+1):=⟨b-a-1,U⟩;rw[rB,fO];have f:=ev c;have d:=ev a;have g:1*aF a<(4294967296*aF c)*aF a:=rG U d;grind
def mj {m n:Nat} (b:m<=n):aF m<=aF n:=by
 rcases bj m n with a|a
 ·exact eb (Rw a)
 obtain rfl:m=n:=U;exact jT _
def pc {n k:Nat} (d:(n:Int)<aF k):(bI n).length<=k:=by
 by_cases b:bI n=[]
 ·rw[b];exact eL _
 have c:=dq.low (ij n) (ls n) b;rw[iL] at c;rcases bj k (bI n).length with a|a
 ·have:=mj (m:=k) (n:=(bI n).length-1) U;omega
 exact a
def ER (a:Nat):(a:Int)<aF (bI a).length:=by have:=fq (ij a);rwa[iL] at this
def ES:bI 0=[]:=rfl
def AJ:bI a=[]↔a=0:=by
 constructor
 ·intro b;have:=iL a;rw[b] at this;simp only[ae] at this;omega
 rintro rfl;rfl
def fM (a:cP):cP:=bI (ae a).toNat
def IR (g:aH c) (h:a<=c.length) (f:∀b,a<=b->(j:b<c.length)->c[b]=0) (i:dq (c.take a)):c.take a=fM c:=by have d:ae c=ae (c.take a):=(by have e:c.drop a=List.replicate (c.length-a) 0:=(by refine List.ext_getElem ab λb d e=>?_;rw[List.getElem_drop,List.getElem_replicate];exact f _ U _);rw[nk c a h,e,ow];simp);rw[fM,d];exact dq.eq (g.take a) i
def IN (a:cP):aH (fM a):=ij _
def IP (a:cP):dq (fM a):=ls _
def IQ (a:aH c):ae (fM c)=ae c:=by have:=dY a;rw[fM,iL];omega
def MX {b c:List e} (g:b.length=c.length) (f:∀a,a<b.length->b[a]?=c[a]?):b=c:=by
 apply h4;intro a;rcases bj a b.length with d|d
 ·exact f a d
 rw[hD d,hD U]
def De (a c:cP) (o:a.length<4611686018427387904):xQ (a,c,())=some (a==c,()):=by
 rw[<-ac.eq_iff];unfold xQ;simp only[ac.eM,ac.ff,ac.aj];refine⟨λd=>?_,λd=>?_⟩
 ·simp at d;have:a≠c:=λf=>d (by rw[f]);simp[this]
 simp at d;have m:a.length=c.length:=U;refine ac.for (i0:=0) a.length (λe _=>∀b,b<e->a[b]?=c[b]?) rfl ab (eL _) ?_ ?_
 ·intro e n _ k g;simp only[ac.eM,ac.ff,ac.aj,ac.kK];refine⟨λ_=>⟨k,U,λl=>?_,λj=>?_⟩,λh=>?_⟩
  ·simp at l;have:a≠c:=λf=>l (by simp[f]);simp[this]
  ·refine⟨jN U,λb p=>?_⟩;rcases bj b e with i|i
   ·exact g b i
   obtain rfl:b=e:=U;simp at j;rw[bA k,bA U,j]
  simp at h;omega
 intro n g;simp only[ac.eM,ac.ff,ac.aj];refine⟨λh=>by simp at h,λ_=>?_⟩;simp[MX m g]
def tb {b:List e} (c:a<b.length):b.take a++[b[a]]=b.take (a+1):=by rw[j1,bA c];rfl
def Ra:c.Pairwise (· < ·)↔∀d,(e:d+1<c.length)->c[d]<c[d+1]:=by
 constructor
 ·intro e d k;exact(hg.1 e) d (d+1) U k U
 intro e;rw[hg];have m:∀b a (f:a<c.length) (g:a+b+1<c.length),c[a]<c[a+b+1]:=by
  intro b
  induction b with
  |zero=>intro a f g;exact e a g
  |succ b l=>
   intro a f g;have i:=l a f U;have j:=e (a+b+1) U;exact Int.lt_trans i j
 intro a h f g n;obtain⟨b,rfl⟩:∃b,h=a+b+1:=⟨h-a-1,U⟩;exact m b a f g
def mark (a:cL) (c:cP):cL:=c.foldl (λa b=>a.set b.toNat true) a
section
def p2 (a:cP) (c:Int):Prop:=a.Pairwise (· < ·)/\∀b∈a,0<=b/\b<c
def ac.count {r:Type} {l:e->Option (e⊕r)} {j:r->Prop} (d:e->Int) (c:Nat) (f:Nat->e->Prop) {i0:Nat} {m:e} (v:d m=(i0:Int)) (s:f i0 m) (p:i0<=c) (x:∀a b,i0<=a->a<c->d b=(a:Int)->f a b->ac (l b) (λ|.inl i=>d i=((a+1:Nat):Int)/\f (a+1) i|.inr h=>j h)) (u:∀b,d b=(c:Int)->f c b->ac (l b) (λ|.inl _=>False|.inr h=>j h)):ac (h1.loop l m) j:=by
 refine ac.loop (λb=>∃a:Nat,i0<=a/\a<=c/\d b=(a:Int)/\f a b) (λb=>c-(d b).toNat) ⟨i0,a2 _,p,v,s⟩ ?_;rintro b ⟨a,w,p,k,q⟩;rcases bj a c with o|o
 ·refine(x a b w o k q).mono ?_;rintro(i|h) g
  ·obtain⟨n,t⟩:=g;exact⟨⟨a+1,U,U,n,t⟩,by rw[k,n];simp;omega⟩
  exact g
 obtain rfl:a=c:=U;refine(u b k q).mono ?_;rintro(i|h) g
 ·exact g.elim
 exact g
open Classical in
def Kx (b:cP) (g:Int) (D:b.length<4611686018427387904):xk (b,g,())=some (decide (p2 b g),()):=by
 rw[<-ac.eq_iff];unfold xk;simp only[ac.ff];refine ac.count (λr=>r.2.1) b.length (λa r=>r.1=(if a=0 then-1 else b.getD (a-1) 0)/\(b.take a).Pairwise (· < ·)/\∀f∈b.take a,0<=f/\f<g) (i0:=0) rfl ⟨rfl,ab,ab⟩ (eL _) ?_ ?_
 ·rintro a ⟨m,A,_⟩ _ e h ⟨j,k,l⟩;simp only at h j;subst h;simp only[ac.eM,ac.ff,ac.aj,ac.kK];have z:∀f∈b.take a,f<=m:=by
   intro f d;rw[j];obtain⟨q,y,rfl⟩:=g9.1 d;simp only[eD] at y;have x:a≠0:=U;rw[ah x];simp only[List.getElem_take,List.getD,bA (U:a-1<b.length),rP];rcases bj q (a-1) with c|c
   ·have:=(hg.1 k) q (a-1) (by simp;omega) (by simp;omega) c;simp only[List.getElem_take] at this;omega
   have:q=a-1:=U;subst this;exact jT _
  have E:-1<=m:=by
   rw[j];by_cases i:a=0
   ·rw[al i];exact jT _
   rw[ah i];simp only[List.getD,bA (U:a-1<b.length),rP];have:=l (b[a-1]) (g9.2 ⟨a-1,by simp;omega,ab⟩);omega
  have t:(b[a]<=m\/g<=b[a])->¬p2 b g:=by
   rintro c ⟨B,u⟩;rcases c with c|c
   ·rw[j] at c;by_cases i:a=0
    ·rw[al i] at c;have:=u _ (dj e);omega
    rw[ah i] at c;simp only[List.getD,bA (U:a-1<b.length),rP] at c;have:=(hg.1 B) (a-1) a U e U;omega
   have:=u _ (dj e);omega
  refine⟨λ_=>⟨e,λn=>⟨λo=>?_,λo=>?_⟩,λn=>?_⟩,λp=>by simp at p;omega⟩
  ·have:=t (.inr (by simpa using o));simp[this]
  ·simp at n o;refine⟨jN U,?_,?_,?_⟩
   ·simp[List.getD,e]
   ·rw[<-tb e,List.pairwise_append];refine⟨k,ab,λv w C s=>?_⟩;simp only[eV] at s;subst s;have:=z v w;omega
   rw[<-tb e];intro f d;rcases eI.1 d with d|d
   ·exact l f d
   simp only[eV] at d;subst d;omega
  have:=t (.inl (by simpa using n));simp[this]
 rintro⟨m,A,_⟩ h ⟨j,k,l⟩;simp only at h;subst h;simp only[ac.eM,ac.aj];refine⟨λp=>by simp at p,λ_=>?_⟩;rw[tD] at k l;have:p2 b g:=⟨k,l⟩;simp[this]
def Dh (a b:Int):qw (a,b,())=some (decide (a<b),()):=by unfold qw oZ;simp
def Jh (a:Int) (b:0<=a) (c:a<18446744073709551616):IntKind.u64.wrap a=a:=by unfold IntKind.wrap;rw[ah (by simp[IntKind.signed])];show a %18446744073709551616=a;omega
def Jp (d:cP) (f:Int) (F:d.length<4611686018427387904) (p:d.Pairwise (· < ·)):ac (xH (d,f,())) (λA=>A.2.1=decide (f∈d)):=by
 unfold xH;simp only[ac.ff];refine ac.mono (P:=λz=>∃a:Nat,z.1=(a:Int)/\a<=d.length/\(∀b,(e:b<d.length)->b<a->d[b]<f)/\(∀b,(e:b<d.length)->a<=b->f<=d[b])) ?_ ?_
 ·refine ac.loop (λn=>∃a c:Nat,n.1=(a:Int)/\n.2.1=(c:Int)/\a<=c/\c<=d.length/\(∀b,(e:b<d.length)->b<a->d[b]<f)/\(∀b,(e:b<d.length)->c<=b->f<=d[b])) (λn=>(n.2.1-n.1).toNat) ⟨0,d.length,rfl,rfl,eL _,a2 _,λb _ e=>by omega,λb j k=>by omega⟩ ?_;rintro⟨y,G,_⟩ ⟨a,c,rfl,rfl,E,r,j,k⟩;simp only[ac.eM,ac.ff,ac.aj];refine⟨λi=>?_,λl=>?_⟩
  ·have i:a<c:=(by simpa using i);have ai:IntKind.i64.wrap ((a:Int)+c)=(a:Int)+c:=wrap64 U U;rw[ai,Jh _ U U];have x:db IntKind.u64 ((a:Int)+c) 1=some (((a+c)/2:Nat):Int):=by
    unfold db;rw[al U];congr 1;show((a:Int)+c).fdiv (2^min 1 64)=_;rw[show(2:Int)^min 1 64=2 from rfl,wg _ U];omega
   rw[x];simp only[ac.aj];have t:IntKind.i64.wrap (((a+c)/2:Nat):Int)=(((a+c)/2:Nat):Int):=wrap64 U U;rw[t,ac.kK];refine⟨U,?_⟩;rw[Dh];simp only[ac.aj,ac.eM];have q:(a+c)/2<d.length:=U;refine⟨λg=>?_,λg=>?_⟩
   ·have g:d[(a+c)/2]<f:=(by simpa using g);rw[jN U];refine⟨⟨(a+c)/2+1,c,rfl,rfl,U,r,λb h v=>?_,k⟩,U⟩;rcases bj b ((a+c)/2) with e|e
    ·exact Int.lt_trans ((hg.1 p) b _ h q e) g
    have:b=(a+c)/2:=U;subst this;exact g
   have g:f<=d[(a+c)/2]:=(by simpa using g);refine⟨⟨a,(a+c)/2,rfl,rfl,U,U,j,λb h v=>?_⟩,U⟩;rcases bj ((a+c)/2) b with e|e
   ·have:=(hg.1 p) _ b q h e;omega
   have:b=(a+c)/2:=U;subst this;exact g
  have u:a=c:=(by have:¬a<c:=(by simpa using l);omega);subst u;exact⟨a,rfl,r,j,k⟩
 rintro⟨y,_⟩ ⟨a,rfl,D,j,k⟩;simp only;have s:(∀e:a<d.length,d[a]≠f)->f∉d:=by
  intro m w;obtain⟨b,h,rfl⟩:=g9.1 w;rcases qf b a with e|e|e
  ·have:=j b h e;omega
  ·subst e;exact m h rfl
  have B:=k a U (a2 _);have C:=(hg.1 p) a b U h e;omega
 simp only[ac.eM,ac.ff,ac.aj,ac.kK];refine⟨λi=>?_,λl=>?_⟩
 ·have i:a<d.length:=(by simpa using i);refine⟨i,λm=>?_,λo=>?_⟩
  ·have m:d[a]≠f:=(by simpa using m);refine⟨i,?_⟩;unfold xN;simp[ac.aj];exact s (λ_=>m)
  have o:d[a]=f:=(by simpa using o);simp[<-o]
 have l:¬a<d.length:=(by simpa using l);simp;exact s (λe=>absurd e l)
structure fj (bR:cE):Prop where
 asc:∀v,(h:v<bR.length)->p2 bR[v] bR.length
 Nt:∀v,(h:v<bR.length)->(v:Int)∉bR[v]
 sym:∀v,(h:v<bR.length)->∀w:Nat,(hw:w<bR.length)->(w:Int)∈bR[v]->(v:Int)∈bR[w]
open Classical in
def jz (a:cE):Int:=if 200<a.length then 6 else if fj a then 0 else 1
open Classical in
def Bp (a:cE) (b:Nat) (d:Int) (g:b<a.length) (e:a[b].length<4611686018427387904) (f:a[b].Pairwise (· < ·)):r8 ((a,()),(b:Int),d,())=some (decide (d∈a[b]),()):=by rw[<-ac.eq_iff];unfold r8;simp only[ac.ff,ac.kK];refine⟨g,(Jp _ _ e f).mono ?_⟩;rintro⟨i,h,_⟩ c;simp only at c;rw[ac.aj,c]
def C9 (a:cE) (u:∀L∈a,L.length<4611686018427387904):uf ((a,()),())=some (jz a,()):=by
 classical
 rw[<-ac.eq_iff];unfold uf;simp only[ac.eM,ac.ff,ac.aj];refine⟨λg=>?_,λg=>?_⟩
 ·have:200<a.length:=(by simp at g;omega);simp[jz,this]
 have z:¬200<a.length:=(by simp at g;omega);have y:¬fj a->(1:Int)=jz a:=λg=>(by simp[jz,z,g]);refine ac.mono (P:=λl=>(l=.inr (1,())/\¬fj a)\/(l=.inl ()/\∀c,(g:c<a.length)->p2 a[c] a.length/\(c:Int)∉a[c])) ?_ ?_
 ·refine ac.for (i0:=0) a.length (λd _=>∀c,c<d->(g:c<a.length)->p2 a[c] a.length/\(c:Int)∉a[c]) rfl (λc h=>by omega) (eL _) ?_ ?_
  ·rintro d _ _ j p;simp only[ac.eM,ac.ff,ac.aj,ac.kK];refine⟨λ_=>⟨j,?_⟩,λi=>by simp at i;omega⟩;rw[Kx _ _ (u _ (dj j))];simp only[ac.aj];refine⟨λq=>?_,λq=>.inl ⟨trivial,λf=>?_⟩⟩
   ·have q:p2 a[d] a.length:=(by simpa using q);rw[Bp a d d j (u _ (dj j)) q.1];simp only[ac.aj,ac.eM];refine⟨λx=>.inl ⟨trivial,λf=>f.Nt d j (by simpa using x)⟩,λx=>⟨jN U,λc h C=>?_⟩⟩;rcases bj c d with n|n
    ·exact p c n C
    obtain rfl:c=d:=U;exact⟨q,by simpa using x⟩
   have:=f.asc d j;simp[this] at q
  intro A p;simp only[ac.eM,ac.aj];exact⟨λi=>by simp at i,λ_=>.inr ⟨trivial,λc h=>p c h h⟩⟩
 rintro l (⟨rfl,f⟩|⟨rfl,t⟩)
 ·simp only[ac.aj,y f]
 simp only[ac.ff];have F:(∀e,(g:e<a.length)->∀o∈a[e],∀b:Nat,o=(b:Int)->(k:b<a.length)->(e:Int)∈a[b])->fj a:=λg=>⟨λe f=>(t e f).1,λe f=>(t e f).2,λe f b k s=>g e f b s b rfl k⟩;refine ac.mono (P:=λl=>(l=.inr (1,())/\¬fj a)\/(l=.inl ()/\∀e,(g:e<a.length)->∀o∈a[e],∀b:Nat,o=(b:Int)->(k:b<a.length)->(e:Int)∈a[b])) ?_ ?_
 ·refine ac.for (i0:=0) a.length (λd _=>∀e,e<d->(g:e<a.length)->∀o∈a[e],∀b:Nat,o=(b:Int)->(k:b<a.length)->(e:Int)∈a[b]) rfl (λc h=>by omega) (eL _) ?_ ?_
  ·rintro d _ _ j p;simp only[ac.eM,ac.ff,ac.kK];refine⟨λ_=>⟨j,?_⟩,λi=>by simp at i;omega⟩;have M:=u _ (dj j);refine ac.mono (P:=λl=>(l=.inr (.inr (.inr (1,())))/\¬fj a)\/(l=.inl ()/\∀o∈a[d],∀b:Nat,o=(b:Int)->(k:b<a.length)->(d:Int)∈a[b])) ?_ ?_
   ·refine ac.for (i0:=0) a[d].length (λc _=>∀m,m<c->(g:m<a[d].length)->∀b:Nat,a[d][m]=(b:Int)->(k:b<a.length)->(d:Int)∈a[b]) rfl (λc h=>by omega) (eL _) ?_ ?_
    ·rintro c _ _ h v;simp only[ac.eM,ac.ff,ac.kK];refine⟨λ_=>⟨h,?_⟩,λi=>by simp at i;omega⟩;have N:=(t d j).1.2 _ (dj h);obtain⟨b,k⟩:∃b:Nat,a[d][c]=(b:Int):=⟨a[d][c].toNat,U⟩;have r:b<a.length:=U;rw[k,Bp a b d r (u _ (dj r)) (t b r).1.1];simp only[ac.aj,ac.eM];refine⟨λE=>.inl ⟨trivial,λf=>?_⟩,λK=>⟨jN U,λm s D B H I=>?_⟩⟩
     ·have:=f.sym d j b r (k▸dj h);simp[this] at E
     rcases bj m c with n|n
     ·exact v m n D B H I
     obtain rfl:m=c:=U;have:B=b:=U;subst this;simpa using K
    intro A v;simp only[ac.eM,ac.aj];refine⟨λi=>by simp at i,λ_=>.inr ⟨trivial,λo J b k r=>?_⟩⟩;obtain⟨m,s,rfl⟩:=g9.1 J;exact v m s s b k r
   rintro l (⟨rfl,f⟩|⟨rfl,w⟩)
   ·simp only[ac.aj];exact .inl ⟨trivial,f⟩
   simp only[ac.aj];refine⟨jN U,λe f G=>?_⟩;rcases bj e d with n|n
   ·exact p e n G
   obtain rfl:e=d:=U;exact w
  intro A p;simp only[ac.eM,ac.aj];exact⟨λi=>by simp at i,λ_=>.inr ⟨trivial,λc h=>p c h h⟩⟩
 rintro l (⟨rfl,f⟩|⟨rfl,w⟩)
 ·simp only[ac.aj,y f]
 simp only[ac.aj];simp[jz,z,F w]
end
section
inductive er (A:Nat->Nat->Prop) (k:Nat):Nat->Nat->Prop
 |one {i j:Nat}:A i j->er A k i j
 |step {i m j:Nat}:A i m->m<k->er A k m j->er A k i j
section
variable {A:Nat->Nat->Prop} {k:Nat}
def er.trans (c:er A k b a) (e:a<k) (d:er A k a f):er A k b f:=by
 induction c with
 |one c=>exact .step c e d
 |step c g _ h=>exact .step c g (h e d)
def er.symm (f:∀d e,A d e->A e d) (c:er A k a b):er A k b a:=by
 induction c with
 |one c=>exact .one (f _ _ c)
 |step c g _ h=>exact h.trans g (.one (f _ _ c))
def er.mono (g:k<=f) (c:er A k a b):er A f a b:=by
 induction c with
 |one c=>exact .one c
 |step c e _ d=>exact .step c U d
def er.first (n:a<b) (j:er A b a b):∃c,a<c/\c<=b/\er A a a c/\(c=b\/er A b c b):=by
 have o:∀{d f:Nat},er A b d f->f=b->(d=a\/(d<a/\er A a a d))->∃c,a<c/\c<=b/\er A a a c/\(c=b\/er A b c b):=by
  intro d f j
  induction j with
  |@one d f g=>
   intro h e;subst h;refine⟨f,n,a2 _,?_,.inl rfl⟩;rcases e with rfl|⟨e,i⟩
   ·exact .one g
   exact i.trans e (.one g)
  |@step d k f g p i m=>
   intro h e;have l:er A a a k:=by
    rcases e with rfl|⟨e,i⟩
    ·exact .one g
    exact i.trans e (.one g)
   rcases qf k a with hmu|hmu|hmu
   ·exact m h (.inr ⟨hmu,l⟩)
   ·exact m h (.inl hmu)
   subst h;exact⟨k,hmu,U,l,.inr i⟩
 exact o j rfl (.inl rfl)
def iD (A:Nat->Nat->Prop) (c a:Nat):Prop:=c<a/\er A a c a/\∀b,c<b->b<a->¬er A b c b
def iD.uniq {p:Nat} (c:iD A b p) (d:iD A b a):p=a:=by
 rcases qf p a with e|f|e
 ·exact absurd c.2.1 (d.2.2 p c.1 e)
 ·exact f
 exact absurd d.2.1 (c.2.2 a d.1 e)
def iD.fill (c:iD A b a):er A b b a:=by
 obtain⟨d,g,h,e,i⟩:=er.first c.1 c.2.1;rcases bj d a with f|f
 ·exact absurd (e.mono U) (c.2.2 d g f)
 obtain rfl:d=a:=U;exact e
def Hy (n:b<a) (o:er A a b a):∃d,d<=a/\iD A b d:=by
 have:∀e,∀a,b<a->a<=e->er A a b a->∃d,d<=a/\iD A b d:=by
  intro e
  induction e with
  |zero=>intro a i k;omega
  |succ e p=>
   intro a i k l;by_cases h:∃c,b<c/\c<a/\er A c b c
   ·obtain⟨c,f,j,g⟩:=h;obtain⟨d,q,m⟩:=p c f U g;exact⟨d,U,m⟩
   exact⟨a,a2 _,i,l,λc f j g=>h ⟨c,f,j,g⟩⟩
 exact this a a n (a2 _) o
inductive fN (A:Nat->Nat->Prop):Nat->Nat->Prop
 |refl (u:Nat):fN A u u
 |up {u p v:Nat}:iD A u p->fN A p v->fN A u v
def fN.le (c:fN A a b):a<=b:=by
 induction c with
 |refl=>exact a2 _
 |up d _ e=>have:=d.1;omega
def fN.trans (d:fN A a b) (c:fN A b f):fN A a f:=by
 induction d with
 |refl=>exact c
 |up e _ g=>exact .up e (g c)
def fN.walk (g:fN A b a):b=a\/er A a b a:=by
 induction g with
 |refl=>exact .inl rfl
 |@up b f a c i d=>
  right;have h:=i.le;rcases d with rfl|d
  ·exact c.2.1
  rcases bj f a with e|e
  ·exact(c.2.1.mono h).trans e d
  obtain rfl:f=a:=U;exact c.2.1
def Kh (m:∀g h,A g h->A h g) (n:b<a) (k:er A a b a):fN A b a:=by
 have:∀d,∀b,b<a->a-b<=d->er A a b a->fN A b a:=by
  intro d
  induction d with
  |zero=>intro b e l;omega
  |succ d o=>
   intro b e l i;obtain⟨f,p,c⟩:=Hy e i;rcases bj f a with j|j
   ·refine .up c (o f j (by have:=c.1;omega) ?_);exact((c.2.1.symm m).mono U).trans e i
   obtain rfl:f=a:=U;exact .up c (.refl _)
 exact this (a-b) b n (a2 _) k
def Ie (f:∀h i,A h i->A i h) (l:a<b):er A a a b↔∃k,A b k/\fN A k a:=by
 constructor
 ·intro d;have j:=d.symm f;cases j with
  |one c=>exact⟨a,c,.refl _⟩
  |@step _ t _ c n r=>exact⟨t,c,Kh f n r⟩
 rintro⟨k,c,g⟩;have:∀{k a:Nat},fN A k a->a<b->(k<b->er A k k b)->er A a a b:=by
  intro k a d
  induction d with
  |refl=>intro m d;exact d m
  |@up u x y e w s=>
   intro q o;refine s q (λv=>?_);have p:u<b:=(by have:=e.1;omega);have c:=o p;have g:=e.fill;exact((g.symm f).mono (by have:=e.1;omega)).trans e.1 (c.mono (by have:=e.1;omega))
 exact this g l (λ_=>.one (f _ _ c))
end
end
section
def ey (bR:cE) (a b:Nat):Prop:=∃c:a<bR.length,(b:Int)∈bR[a]
def ey.lt {bR:cE} (f:fj bR) (d:ey bR a b):a<bR.length/\b<bR.length:=by obtain⟨c,e⟩:=d;have:=(f.asc a c).2 _ e;exact⟨c,U⟩
def ey.symm {bR:cE} (e:fj bR):∀a b,ey bR a b->ey bR b a:=λa b c=>by obtain⟨f,d⟩:=c.lt e;exact⟨d,e.sym a f b d c.2⟩
def er.lt {bR:cE} (b:fj bR) {e c j:Nat} (a:er (ey bR) e c j):c<bR.length/\j<bR.length:=by
 induction a with
 |one a=>exact a.lt b
 |step a _ _ d=>exact⟨(a.lt b).1,d.2⟩
inductive fx (R:Nat->Nat->Prop):Nat->Nat->Prop
 |refl (u:Nat):fx R u u
 |step {u p v:Nat}:R u p->fx R p v->fx R u v
def fx.trans (c:fx g a b) (d:fx g b f):fx g a f:=by
 induction c with
 |refl=>exact d
 |step c _ e=>exact .step c (e d)
def fx.mono {d:Nat->Nat->Prop} (f:∀a e,g a e->d a e) (c:fx g a b):fx d a b:=by
 induction c with
 |refl=>exact .refl _
 |step c _ h=>exact .step (f _ _ c) h
def fx.comp (i:∀a c d,g a c->g a d->c=d) (j:fx g a b) (e:fx g a f):fx g b f\/fx g f b:=by
 induction j with
 |refl=>exact .inl e
 |@step a c b h l n=>
  cases e with
  |refl=>exact .inr (.step h l)
  |@step _ d _ k m=>
   obtain rfl:=i _ _ _ h k;exact n m
section
variable (bR:cE)
def nA (j:Nat) (T:Nat->Prop) (b c:Nat):Prop:=
 (c<j/\iD (ey bR) b c)\/(c=j/\b<j/\(∀d,d<j->¬iD (ey bR) b d)/\∃a,T a/\a<j/\ey bR j a/\fN (ey bR) a b)
def ep (dQ:cP) (b a:Nat):Prop:=dQ[b]?=some (a:Int)
structure ja (j:Nat) (T:Nat->Prop) (dQ lh:cP):Prop where
 q0:dQ.length=bR.length
 FO:lh.length=bR.length
 iV:∀u p,ep dQ u p↔(u<bR.length/\nA bR j T u p)
 none:∀(u:Nat) (x:Int),dQ[u]?=some x->x=-1\/∃p:Nat,x=(p:Int)
 wC:∀u:Nat,lh[u]?=some (-1)↔dQ[u]?=some (-1)
 wD:∀(u:Nat) (x:Int),lh[u]?=some x->x=-1\/∃a p:Nat,x=(a:Int)/\ep dQ u p/\fx (ep dQ) p a
variable {bR} {j:Nat} {T:Nat->Prop} {dQ lh:cP}
theorem nA.lt (d:nA bR j T b a):b<a/\a<=j:=by
 rcases d with⟨e,c⟩|⟨e,c,_⟩
 ·exact⟨c.1,U⟩
 omega
theorem ja.pW (d:ja bR j T dQ lh) (f:fx (ep dQ) b a):b<=a/\(b=a\/a<=j):=by
 induction f with
 |refl=>exact⟨a2 _,.inl rfl⟩
 |@step b k a e i g=>
  have h:=((d.iV _ _).1 e).2.lt;rcases g.2 with c|c
  ·exact⟨U,.inr U⟩
  exact⟨U,.inr c⟩
theorem ja.CZ (c:ja bR j T dQ lh) (f:fx (ep dQ) b a) (h:a<j):fN (ey bR) b a:=by
 induction f with
 |refl=>exact .refl _
 |@step b k a e g i=>
  have m:k<=a:=(c.pW g).1;rcases((c.iV _ _).1 e).2 with⟨_,d⟩|⟨l,_⟩
  ·exact .up d (i h)
  omega
theorem ja.I5 (d:ja bR j T dQ lh) (g:fx (ep dQ) a j) (p:a<j):∃b,fN (ey bR) a b/\b<j/\ep dQ b j:=by
 generalize i:j=l at g
 induction g with
 |refl=>omega
 |@step a h l c q k=>
  subst i;have o:=((d.iV _ _).1 c).2.lt;rcases bj h j with f|f
  ·obtain⟨b,m,n,bK⟩:=k f rfl;rcases((d.iV _ _).1 c).2 with⟨_,e⟩|⟨e,_⟩
   ·exact⟨b,.up e m,n,bK⟩
   omega
  obtain rfl:h=j:=U;exact⟨a,.refl _,U,c⟩
theorem CD {j:Nat} (k:fN (ey bR) f a) (h:fN (ey bR) f b) (i:∀c,c<j->¬iD (ey bR) a c) (n:∀c,c<j->¬iD (ey bR) b c) (m:a<j) (q:b<j):a=b:=by
 induction k with
 |refl f=>
  cases h with
  |refl=>rfl
  |@up _ g _ d e=>exact absurd d (i g (by have:=e.le;omega))
 |@up f g a d e p=>
  cases h with
  |refl=>exact absurd d (n g (by have:=e.le;omega))
  |@up _ c _ l o=>
   obtain rfl:=d.uniq l;exact p o i m
theorem ep.hn {dQ:cP}:∀d b c,ep dQ d b->ep dQ d c->b=c:=λd b c e a=>by unfold ep at e a;rw[e] at a;simp at a;omega
theorem fx.tail (d:fx g a b) (f:a≠b):∃c,g a c/\fx g c b:=by
 cases d with
 |refl=>exact absurd rfl f
 |step e h=>exact⟨_,e,h⟩
theorem NA (cv:fj bR) (ex:bR.length<=200) (e:ja bR j T dQ lh) (d9:j<bR.length) (bl:ey bR j a):ac (xb ((dQ,(lh,())),(a:Int),(j:Int),())) (λg=>ja bR j (λc=>T c\/c=a) g.1.1 g.1.2.1):=by
 have d1:a<bR.length:=(bl.lt cv).2;unfold xb;simp only[ac.ff]
 let a0:cP->cP->Prop:=λF p=>
  (∀b,p[b]?=lh[b]?\/(p[b]?=some (j:Int)/\b<j/\fx (ep dQ) a b))/\p.length=bR.length/\
  ((F=dQ/\(fx (ep dQ) a j\/j<=a))\/∃g,g<j/\dQ[g]?=some (-1)/\fx (ep dQ) a g/\F=dQ.set g (j:Int)/\p[g]?=some (j:Int))
 refine ac.mono (P:=λn=>a0 n.1.1 n.1.2.1) ?_ ?_
 ·refine ac.loop (λu=>(u.1=-1/\a0 u.2.1.1 u.2.1.2.1)\/∃c:Nat,u.1=(c:Int)/\c<bR.length/\fx (ep dQ) a c/\u.2.1.1=dQ/\u.2.1.2.1.length=bR.length/\∀b,u.2.1.2.1[b]?=lh[b]?\/(u.2.1.2.1[b]?=some (j:Int)/\b<j/\b<c/\fx (ep dQ) a b)) (λu=>if u.1=-1 then 0 else 1000-u.1.toNat) (.inr ⟨a,rfl,d1,.refl _,rfl,e.FO,λb=>.inl rfl⟩) ?_;rintro⟨fn,⟨F,p,_⟩,_⟩ ci;simp only at ci;simp only[ac.ff,ac.eM,ac.aj];rcases ci with⟨rfl,cs⟩|⟨c,rfl,d0,h,rfl,W,G⟩
  ·exact⟨λX=>by simp at X,λ_=>cs⟩
  refine⟨λ_=>⟨λk=>?_,λk=>?_⟩,λX=>by simp at X⟩
  ·have k:c<j:=(by simpa using k);simp only[ac.sy,ac.rW,ac.F9,ac.aj,du];have B:c<p.length:=U;have a4:p[c]?=lh[c]?:=by
    rcases G c with d|⟨_,_,em,_⟩
    ·exact d
    omega
   refine⟨⟨U,B⟩,B,⟨U,B⟩,B,λx=>?_,λx=>?_⟩
   ·have x:p[c]=-1:=(by simpa using x);have J:F[c]?=some (-1):=(e.wC c).1 (by rw[<-a4,bA B,x]);have ce:c<F.length:=(by rw[e.q0];exact d0);refine⟨⟨U,ce⟩,ce,.inl ⟨x,?_,?_,.inr ⟨c,k,J,h,rfl,?_⟩⟩,?_⟩
    ·intro b;rcases qf b c with l|l|l
     ·rw[kr U];exact(G b).imp id (λ⟨v,z,_,C⟩=>⟨v,z,C⟩)
     ·subst l;rw[jY B];exact .inr ⟨rfl,k,h⟩
     rw[kr U];exact(G b).imp id (λ⟨v,z,_,C⟩=>⟨v,z,C⟩)
    ·simp[W]
    ·rw[jY B]
    rw[al x,ah U];omega
   have x:p[c]≠-1:=(by simpa using x);rcases e.wD c p[c] (by rw[<-a4,bA B]) with d|⟨v,f,M,L,N⟩
   ·exact absurd d x
   have eq:=((e.iV _ _).1 L).2.lt;have d5:=e.pW N;have dl:v<bR.length:=by rcases d5.2 with d|d<;>omega
   refine⟨.inr ⟨v,M,dl,h.trans (.step L N),trivial,by simp[W],λb=>?_⟩,?_⟩
   ·rcases qf b c with l|l|l
    ·rw[kr U];exact(G b).imp id (λ⟨S,z,C,V⟩=>⟨S,z,U,V⟩)
    ·subst l;rw[jY B];exact .inr ⟨rfl,k,U,h⟩
    rw[kr U];exact(G b).imp id (λ⟨S,z,C,V⟩=>⟨S,z,U,V⟩)
   rw[ah x,ah U,M];simp only[du];omega
  have k:j<=c:=(by simpa using k);refine⟨λb=>(G b).imp id (λ⟨v,z,_,C⟩=>⟨v,z,C⟩),W,.inl ⟨rfl,?_⟩⟩;rcases(e.pW h).2 with d|d
  ·exact .inr U
  obtain rfl:c=j:=U;exact .inl h
 rintro⟨⟨F,p,_⟩,_⟩ ⟨I,f2,a3⟩;simp only at I f2 a3;simp only[ac.aj];rcases a3 with⟨rfl,h⟩|⟨g,O,J,h,rfl,ds⟩
 ·have d4:∀b f,b<bR.length->(nA bR j (λc=>T c\/c=a) b f↔nA bR j T b f):=by
   intro b f _;constructor
   ·rintro(q|⟨rfl,r,A,c,s,k,D,t⟩)
    ·exact .inl q
    rcases s with s|rfl
    ·exact .inr ⟨rfl,r,A,c,s,k,D,t⟩
    rcases h with h|h
    ·obtain⟨d8,ap,av,bK⟩:=e.I5 h k;have H:=((e.iV _ _).1 bK).2;rcases H with⟨o,_⟩|H
     ·omega
     obtain rfl:=CD ap t H.2.2.1 A av r;exact .inr H
    omega
   rintro(q|⟨rfl,r,A,c,s,k,D,t⟩)
   ·exact .inl q
   exact .inr ⟨rfl,r,A,c,.inl s,k,D,t⟩
  refine⟨e.q0,f2,λb f=>(e.iV b f).trans (and_congr_right λl=>(d4 b f l).symm),e.none,λb=>?_,λb K m=>?_⟩
  ·rcases I b with d|⟨d,l,w⟩
   ·rw[d];exact e.wC b
   rw[d];constructor
   ·intro o;simp at o
   intro o;rcases h with h|h
   ·obtain⟨d8,ap,av,bK⟩:=e.I5 h (by have:=(e.pW w).1;omega);have t:=e.CZ w l;have d7:∀n,n<j->¬iD (ey bR) b n:=λn Z i=>by
     have:ep F b n:=(e.iV b n).2 ⟨U,.inl ⟨Z,i⟩⟩;unfold ep at this;rw[o] at this;simp at this
    rcases((e.iV _ _).1 bK).2 with⟨el,_⟩|H
    ·omega
    obtain rfl:=CD ap t H.2.2.1 d7 av l;unfold ep at bK;rw[o] at bK;simp at bK
   have:=(e.pW w).1;omega
  rcases I b with d|⟨d,l,w⟩
  ·rw[d] at m;exact e.wD b K m
  rw[d] at m;cases m;right;have bs:a<j:=(by have:=(e.pW w).1;omega);rcases h with h|h
  ·rcases w.comp ep.hn h with E|E
   ·obtain⟨f,d2,d3⟩:=E.tail U;exact⟨j,f,rfl,d2,d3⟩
   have:=(e.pW E).1;omega
  omega
 have am:g<dQ.length:=by
  rcases bj g dQ.length with o|o
  ·exact o
  rw[hD o] at J;cases J
 have an:∀f,¬ep dQ g f:=λf i=>(by unfold ep at i;rw[J] at i;simp at i);have ad:∀n,n<j->¬iD (ey bR) g n:=λn Z i=>an n ((e.iV g n).2 ⟨by have:=e.q0;omega,.inl ⟨Z,i⟩⟩);have R:∀b f,ep dQ b f->ep (dQ.set g (j:Int)) b f:=λb f i=>(by have Y:b≠g:=λd=>an f (d▸i);unfold ep at i|-;rw[kr U];exact i);have Q:ep (dQ.set g (j:Int)) g j:=(by unfold ep;rw[jY am]);have bs:a<j:=(by have:=(e.pW h).1;omega);have co:∀b,fx (ep dQ) a b->b≠g->∃f,ep dQ b f/\fx (ep dQ) f g:=λb l Y=>by
  rcases l.comp ep.hn h with E|E
  ·exact E.tail Y
  obtain⟨f,i,_⟩:=E.tail (Ne.symm Y);exact absurd i (an f)
 refine⟨by simp[e.q0],f2,λb f=>?_,λb K m=>?_,λb=>?_,λb K m=>?_⟩
 ·by_cases y:b=g
  ·subst y;have d:ep (dQ.set b (j:Int)) b f↔f=j:=⟨λi=>ep.hn _ _ _ i Q,λd=>d▸Q⟩;rw[d];constructor
   ·rintro rfl;exact⟨by have:=e.q0;omega,.inr ⟨rfl,O,ad,a,.inr rfl,bs,bl,e.CZ h O⟩⟩
   rintro⟨_,⟨q,r⟩|⟨q,_⟩⟩
   ·exact absurd r (ad f q)
   exact q
  have d:ep (dQ.set g (j:Int)) b f↔ep dQ b f:=(by unfold ep;rw[kr U]);rw[d,e.iV];refine and_congr_right λ_=>?_;constructor
  ·rintro(q|⟨rfl,r,A,c,s,k,D,t⟩)
   ·exact .inl q
   exact .inr ⟨rfl,r,A,c,.inl s,k,D,t⟩
  rintro(q|⟨rfl,r,A,c,s,k,D,t⟩)
  ·exact .inl q
  rcases s with s|rfl
  ·exact .inr ⟨rfl,r,A,c,s,k,D,t⟩
  exact absurd (CD t (e.CZ h O) A ad r O) y
 ·by_cases y:b=g
  ·subst y;rw[jY am] at m;cases m;exact .inr ⟨j,rfl⟩
  rw[kr U] at m;exact e.none b K m
 ·by_cases y:b=g
  ·subst y;rw[ds,jY am]
  rw[kr U];rcases I b with d|⟨d,l,w⟩
  ·rw[d];exact e.wC b
  rw[d];constructor
  ·intro o;simp at o
  intro o;obtain⟨f,i,_⟩:=co b w y;unfold ep at i;rw[o] at i;simp at i
 rcases I b with d|⟨d,l,w⟩
 ·rw[d] at m;rcases e.wD b K m with d|⟨v,f,M,L,N⟩
  ·exact .inl d
  exact .inr ⟨v,f,M,R _ _ L,N.mono R⟩
 rw[d] at m;cases m;right;by_cases y:b=g
 ·subst y;exact⟨j,j,rfl,Q,.refl _⟩
 obtain⟨f,i,d6⟩:=co b w y;exact⟨j,f,rfl,R _ _ i,(d6.mono R).trans (.step Q (.refl _))⟩
end
end
def It (c a:Nat) (g:cP) (e:Int) (i:g=List.replicate a e++List.replicate (c-a) 0) (j:a<c):g.set a e=List.replicate (a+1) e++List.replicate (c-(a+1)) 0:=by
 subst i;apply h4;intro b;rw[List.getElem?_set];simp only[jZ,ny,List.getElem?_append,lP];split
 ·rename_i h;subst h;rw[al U,al U];split<;>first|rfl|omega
 by_cases d:b<a
 ·rw[al d,al d,al (U:b<a+1),al (U:b<a+1)]
 rw[ah d,ah (U:¬b<a+1)];by_cases f:b-a<c-a
 ·rw[al f,al (U:b-(a+1)<c-(a+1))]
 rw[ah f,ah (U:¬b-(a+1)<c-(a+1))]
def OP (a:Nat) (k:a<=200):xc ((a:Int),())=some ((List.replicate a (-1),(List.replicate a (-1),())),()):=by
 rw[<-ac.eq_iff];unfold xc;have j:fh=4294967296:=rfl;simp only[ac.ff,ac.BI,ac.aj,du];refine⟨⟨U,U,U⟩,⟨U,U,U⟩,?_⟩;refine ac.for (i0:=0) a (λb i=>i.1.1=List.replicate b (-1)++List.replicate (a-b) 0/\i.1.2.1=List.replicate b (-1)++List.replicate (a-b) 0) rfl ⟨ab,ab⟩ (eL _) ?_ ?_
 ·rintro b ⟨⟨g,e,_⟩,_⟩ _ h ⟨c,d⟩;simp only at c d;have l:g.length=a:=(by rw[c];simp;omega);have m:e.length=a:=(by rw[d];simp;omega);simp only[ac.eM,ac.ff,ac.aj,ac.sy,ac.rW,ac.F9,du];exact⟨λ_=>⟨⟨U,U⟩,U,⟨U,U⟩,U,jN U,It a b g _ c h,It a b e _ d h⟩,λf=>by simp at f;omega⟩
 rintro⟨⟨g,e,_⟩,_⟩ ⟨c,d⟩;simp only at c d;simp only[ac.eM,ac.aj];refine⟨λf=>by simp at f,λ_=>?_⟩;rw[c,d];simp
structure zI (bR:cE) (dQ:cP):Prop where
 len:dQ.length=bR.length
 iV:∀u p:Nat,dQ[u]?=some (p:Int)↔iD (ey bR) u p
 none:∀(u:Nat) (x:Int),dQ[u]?=some x->x=-1\/∃p:Nat,x=(p:Int)
def SS (c:cE):ja c 0 (λ_=>False) (List.replicate c.length (-1)) (List.replicate c.length (-1)):=by
 refine⟨ab,ab,λd f=>?_,λd e a=>?_,λd=>Iff.rfl,λd e a=>?_⟩
 ·constructor
  ·intro b;unfold ep at b;rw[lP] at b;split at b
   ·simp at b
   cases b
  rintro⟨_,⟨b,_⟩|⟨_,b,_⟩⟩<;>omega
 ·rw[lP] at a;split at a
  ·cases a;exact .inl rfl
  cases a
 rw[lP] at a;split at a
 ·cases a;exact .inl rfl
 cases a
def ja.IW {g:Nat->Prop} (d:ja i a h m c) (j:∀e f,e<i.length->(nA i a h e f↔nA i b g e f)):ja i b g m c:=
 ⟨d.q0,d.FO,λe f=>(d.iV e f).trans (and_congr_right λk=>j e f k),d.none,d.wC,d.wD⟩
def Rb (s:fj i) (r:∀d,ey i a d->h d) (n c:Nat):nA i a h n c↔nA i (a+1) (λ_=>False) n c:=by
 have e:=ey.symm s;constructor
 ·rintro(⟨p,b⟩|⟨rfl,b,q,d,_,v,u,t⟩)
  ·exact .inl ⟨U,b⟩
  refine .inl ⟨U,b,?_,λz x C f=>?_⟩
  ·have g:er (ey i) c d c:=.one (e _ _ u);rcases t.walk with rfl|f
   ·exact g
   exact((f.symm e).mono U).trans v g
  obtain⟨A,D,y⟩:=Hy x f;exact q A U y
 rintro(⟨p,b⟩|⟨_,_,_,_,o,_⟩)
 ·rcases bj c a with l|l
  ·exact .inl ⟨l,b⟩
  obtain rfl:c=a:=U;obtain⟨m,j,k⟩:=(Ie e b.1).1 b.fill;exact .inr ⟨rfl,b.1,λz B w=>by have:=w.uniq b;omega,m,r m j,by have:=k.le;have:=b.1;omega,j,k⟩
 exact o.elim
def JK (a:cE) (v:∀B∈a,B.length<4611686018427387904) (w:a.length<=200) (j:fj a):ac (xa ((a,()),())) (λy=>y.2.1=0/\zI a y.1):=by
 classical
 unfold xa;have A:jz a=0:=(by unfold jz;rw[ah U,al j]);simp only[ac.ff,C9 a v,A,ac.aj,ac.eM];refine⟨λc=>by simp at c,λ_=>?_⟩;rw[OP _ w];simp only[ac.aj];refine ac.mono (P:=λd=>ja a a.length (λ_=>False) d.1.1 d.1.2.1) ?_ ?_
 ·refine ac.for (i0:=0) a.length (λb m=>ja a b (λ_=>False) m.1.1 m.1.2.1) rfl (SS a) (eL _) ?_ ?_
  ·rintro b ⟨⟨p,s,_⟩,_⟩ _ k e;simp only at e;simp only[ac.eM,ac.ff,ac.kK,ac.aj];refine⟨λ_=>⟨k,?_⟩,λg=>by simp at g;omega⟩;have D:=v _ (dj k);refine ac.mono (P:=λd=>ja a (b+1) (λ_=>False) d.1.1 d.1.2.1) ?_ ?_
   ·refine ac.for (i0:=0) a[b].length (λi m=>ja a b (λh=>(h:Int)∈a[b].take i) m.1.1 m.1.2.1) rfl (by simpa using e) (eL _) ?_ ?_
    ·rintro i ⟨⟨x,t,_⟩,_⟩ _ o f;simp only at f;simp only[ac.eM,ac.ff,ac.kK,ac.aj];refine⟨λ_=>⟨o,?_⟩,λg=>by simp at g;omega⟩;have E:=(j.asc b k).2 _ (dj o);obtain⟨h,r⟩:∃h:Nat,a[b][i]=(h:Int):=⟨a[b][i].toNat,U⟩;have q:ey a b h:=⟨k,r▸dj o⟩;rw[r];refine(NA j w f k q).mono ?_;rintro⟨⟨F,C,_⟩,_⟩ u;simp only at u;refine⟨jN U,u.IW (λn d _=>?_)⟩;have z:(λl:Nat=>(l:Int)∈a[b].take i\/l=h)=(λl:Nat=>(l:Int)∈a[b].take (i+1)):=by
      funext l;rw[<-tb o,r];apply propext;simp only[eI,eV];constructor<;>rintro(c|c)<;>first|exact .inl c|(right;omega)
     rw[z]
    rintro⟨⟨x,t,_⟩,_⟩ f;simp only at f;simp only[ac.eM,ac.aj];refine⟨λg=>by simp at g,λ_=>?_⟩;rw[tD] at f;exact f.IW (λn d _=>Rb j (λh q=>q.2) n d)
   rintro⟨⟨x,t,_⟩,_⟩ f;exact⟨jN U,f⟩
  rintro⟨⟨p,s,_⟩,_⟩ e;simp only[ac.eM,ac.aj];exact⟨λg=>by simp at g,λ_=>e⟩
 rintro⟨⟨p,s,_⟩,_⟩ e;simp only at e;refine⟨trivial,e.q0,λn d=>?_,e.none⟩;rw[show(p[n]?=some (d:Int))=ep p n d from rfl,e.iV];constructor
 ·rintro⟨_,⟨_,c⟩|⟨_,_,_,_,c,_⟩⟩
  ·exact c
  exact c.elim
 intro c;have:=c.2.1.lt j;exact⟨this.1,.inl ⟨this.2,c⟩⟩
section
def iB (c:cE) (a b:Nat):Prop:=b=a\/(a<b/\er (ey c) a a b)
open Classical in
def kV (c:cE) (b:Nat):cP:=((List.range (b+1)).filter λa=>decide (iB c a b)).map λ(a:Nat)=>(a:Int)
open Classical in
def jf (c:cE) (b d:Nat):cP:=((List.range d).filter λa=>decide (b<=a/\iB c b a)).map λ(a:Nat)=>(a:Int)
def be (a:cE) (b:Nat):cP:=jf a b a.length
def Gc:(a:Int)∈kV i b↔a<=b/\iB i a b:=by
 unfold kV;simp only[c4,gp,ha,decide_eq_true_eq];constructor
 ·rintro⟨d,⟨e,c⟩,f⟩;have:d=a:=U;subst this;exact⟨U,c⟩
 exactλ⟨e,c⟩=>⟨a,⟨U,c⟩,rfl⟩
def Ou (b:d∈kV i a):∃c:Nat,d=(c:Int)/\c<=a/\iB i c a:=by unfold kV at b;simp only[c4,gp,ha,decide_eq_true_eq] at b;obtain⟨e,⟨h,f⟩,g⟩:=b;exact⟨e,g.symm,U,f⟩
def iB.le (c:iB i b a):b<=a:=by rcases c with c|c<;>omega
def BK:(a:Int)∈be i b↔a<i.length/\iB i b a:=by
 unfold be jf;simp only[c4,gp,ha,decide_eq_true_eq];constructor
 ·rintro⟨e,⟨d,c⟩,f⟩;have:e=a:=U;subst this;exact⟨d,c.2⟩
 exactλ⟨d,c⟩=>⟨a,⟨d,c.le,c⟩,rfl⟩
def CN (c:Nat->Bool) (b:Nat):(((List.range b).filter c).map λ(a:Nat)=>(a:Int)).Pairwise (· < ·):=by rw[tC];refine List.Pairwise.filter _ ?_;exact List.pairwise_lt_range.imp (λd=>by omega)
def R5 (a:cE) (b:Nat):(kV a b).Pairwise (· < ·):=CN _ _
def Am (a:cE) (b:Nat):(be a b).Pairwise (· < ·):=CN _ _
def R6 (b:cE) (a:Nat):(kV b a).length<=a+1:=by unfold kV;rw[gR];exact bt (jq _ _) ab
def Ey (b:cE) (c a:Nat):(jf b c a).length<=a:=by unfold jf;rw[gR];exact bt (jq _ _) ab
structure tE (bR:cE) (i:Nat) (N:Nat->Prop) (m:cL):Prop where
 len:m.length=i+1
 top:m[i]?=some true
 iff:∀u,u<i->(m[u]?=some true↔∃k,N k/\fN (ey bR) k u)
def K8 (am:fj i) (z:zI i c) (cs:a<i.length) (cv:i.length<=200) {G:cL} (r:tE i a h G) {k0:Nat} (a0:k0<i.length):ac (loop (σ:=ch) (ρ:=cp) (λ(D,v,_)=>
 Option.bind (α:=cp⊕b4) (bif decide (D>=(0:Int))==true then bif decide (D<(a:Int))==true then(bL v.length D).bind λbl=>
 (bC v bl λad=>some ad).bind λce=>
  bif !ce then
 some (.inl (v,())) else
 some (.inr (.inr (v,()))) else some (.inr (.inr (v,()))) else some (.inr (.inr (v,())))) λbs=>match bs with
 |.inl (Q,_)=>(
 (bL Q.length D).bind λZ=>
 (bC Q Z λ_=>some (Q.set Z true)).bind λco=>
 (aL c D).bind λci=>
 some (.inl (ci,co,())))
 |.inr R=>some R) ((k0:Int),G,())) (λR=>tE i a (λn=>h n\/n=k0) R.1):=by
 refine ac.loop (λj=>j.2.1.length=a+1/\j.2.1[a]?=some true/\(j.1=-1\/∃g:Nat,j.1=(g:Int)/\g<i.length/\fN (ey i) k0 g)/\(∀b,b<a->j.2.1[b]?=some true->G[b]?=some true\/fN (ey i) k0 b)/\(∀b,b<a->G[b]?=some true->j.2.1[b]?=some true)/\(∀b,b<a->fN (ey i) k0 b->j.2.1[b]?=some true\/∃g:Nat,j.1=(g:Int)/\fN (ey i) g b)/\(∀b e,b<a->e<a->j.2.1[b]?=some true->iD (ey i) b e->j.2.1[e]?=some true\/j.1=(e:Int))) (λj=>if j.1=-1 then 0 else 1000-j.1.toNat) ?_ ?_
 ·refine⟨r.len,r.top,.inr ⟨k0,rfl,a0,.refl _⟩,λb _ d=>.inl d,λb _ d=>d,λb _ d=>.inr ⟨k0,rfl,d⟩,λb e f l k F=>.inl ?_⟩;obtain⟨n,C,t⟩:=(r.iff b f).1 k;exact(r.iff e l).2 ⟨n,C,t.trans (.up F (.refl _))⟩
 rintro⟨d0,o,_⟩ ⟨N,O,M,I,J,y,K⟩;simp only at N O M I J y K;have H:(∀b,b<a->fN (ey i) k0 b->o[b]?=some true)->tE i a (λn=>h n\/n=k0) o:=λan=>by
  refine⟨N,O,λb f=>⟨λk=>?_,?_⟩⟩
  ·rcases I b f k with d|d
   ·obtain⟨n,C,t⟩:=(r.iff b f).1 d;exact⟨n,.inl C,t⟩
   exact⟨k0,.inr rfl,d⟩
  rintro⟨n,C|rfl,t⟩
  ·exact J b f ((r.iff b f).2 ⟨n,C,t⟩)
  exact an b f t
 simp only[ac.ff,ac.eM,ac.aj,ac.sy,ac.rW];rcases M with rfl|⟨g,rfl,av,S⟩
 ·refine⟨λL=>by simp at L,λ_=>H λb f p=>?_⟩;rcases y b f p with d|⟨g,M,_⟩
  ·exact d
  omega
 refine⟨λ_=>⟨λB=>?_,λB=>?_⟩,λL=>by simp at L⟩
 ·have B:g<a:=(by simpa using B);have s:g<o.length:=U;simp only[du];refine⟨⟨U,s⟩,s,λdl=>?_,λY=>?_⟩
  ·have V:g<c.length:=(by rw[z.len];exact av);refine⟨⟨U,s⟩,s,?_⟩;rw[ac.kK];refine⟨V,?_⟩;have E:c[g]?=some c[g]:=bA V;have X:c[g]=-1\/∃e:Nat,c[g]=(e:Int)/\iD (ey i) g e:=by
    rcases z.none g _ E with m|⟨e,m⟩
    ·exact .inl m
    exact .inr ⟨e,m,(z.iV g e).1 (by rw[E,m])⟩
   have q:∀b,(o.set g true)[b]?=some true↔b=g\/o[b]?=some true:=λb=>by
    by_cases f:b=g
    ·subst f;simp[jY s]
    rw[kr U];simp[f]
   refine⟨⟨by simp[N],by rw[kr U];exact O,?_,λb f k=>?_,λb f k=>(q b).2 (.inr (J b f k)),λb f p=>?_,λb e f l k F=>?_⟩,?_⟩
   ·rcases X with m|⟨e,m,l⟩
    ·exact .inl m
    exact .inr ⟨e,m,(l.2.1.lt am).2,S.trans (.up l (.refl _))⟩
   ·rcases(q b).1 k with rfl|k
    ·exact .inr S
    exact I b f k
   ·rcases y b f p with d|⟨u,T,A⟩
    ·exact .inl ((q b).2 (.inr d))
    obtain rfl:u=g:=U;cases A with
    |refl=>exact .inl ((q _).2 (.inl rfl))
    |@up _ e _ l P=>
     have:=(z.iV u e).2 l;rw[E] at this;exact .inr ⟨e,dp this,P⟩
   ·rcases(q b).1 k with rfl|k
    ·have:=(z.iV b e).2 F;rw[E] at this;exact .inr (dp this)
    rcases K b e f l k F with d|d
    ·exact .inl ((q e).2 (.inr d))
    exact .inl ((q e).2 (.inl U))
   rcases X with m|⟨e,m,l⟩
   ·rw[al m,ah U];omega
   have:=l.1;rw[m,ah U,ah U];omega
  have W:o[g]?=some true:=(by rw[bA s];simp at Y;rw[Y]);refine H λb f p=>?_;rcases y b f p with d|⟨u,T,A⟩
  ·exact d
  obtain rfl:u=g:=U;have:∀{w x:Nat},fN (ey i) w x->x<a->o[w]?=some true->o[x]?=some true:=by
   intro w x d
   induction d with
   |refl=>exactλ_ d=>d
   |@up w e x l P a4=>
    intro ap a3;have ds:=P.le;refine a4 ap ?_;rcases K w e (by have:=l.1;omega) U a3 l with d|d
    ·exact d
    have:e=u:=U;rw[this];exact W
  exact this A f W
 have B:a<=g:=(by simpa using B);refine H λb f p=>?_;rcases y b f p with d|⟨u,T,A⟩
 ·exact d
 have:=A.le;omega
open Classical in
def R7 (t:fj i) (B:∀F∈i,F.length<4611686018427387904) (z:zI i c) (n:a<i.length) (C:i.length<=200):x7 ((i,()),c,(a:Int),())=some (kV i a,()):=by
 rw[<-ac.eq_iff];unfold x7;have I:fh=4294967296:=rfl;have D:=ey.symm t;have E:IntKind.i64.wrap ((a:Int)+1)=((a+1:Nat):Int):=jN U;simp only[E,ac.ff,ac.BI,ac.sy,ac.rW,ac.aj,du,ac.kK,ny];refine⟨⟨U,U,U⟩,⟨U,U⟩,U,n,?_⟩;have H:=B _ (dj n);refine ac.mono (P:=λG=>tE i a (λb=>ey i a b) G.1) ?_ ?_
 ·refine ac.for (i0:=0) i[a].length (λb r=>tE i a (λe=>(e:Int)∈i[a].take b) r.1) rfl ?_ (eL _) ?_ ?_
  ·refine⟨ab,by rw[jY ab],λh q=>?_⟩;rw[kr U,lP];simp
  ·rintro b ⟨m,_⟩ _ g f;simp only at f;simp only[ac.eM,ac.ff,ac.kK];refine⟨λ_=>⟨g,?_⟩,λj=>by simp at j;omega⟩;have K:=(t.asc a n).2 _ (dj g);obtain⟨s,l⟩:∃s:Nat,i[a][b]=(s:Int):=⟨i[a][b].toNat,U⟩;rw[l];refine(K8 t z n C f (k0:=s) U).mono ?_;rintro⟨x,_⟩ A;simp only[ac.aj];refine⟨jN U,?_⟩;have o:(λe:Nat=>(e:Int)∈i[a].take b\/e=s)=(λe:Nat=>(e:Int)∈i[a].take (b+1)):=by
    funext e;rw[<-tb g,l];apply propext;simp only[eI,eV];constructor<;>rintro(d|d)<;>first|exact .inl d|(right;omega)
   rw[<-o];exact A
  rintro⟨m,_⟩ f;simp only[ac.eM,ac.aj];refine⟨λj=>by simp at j,λ_=>?_⟩;rw[tD] at f;have o:(λe:Nat=>(e:Int)∈i[a])=(λe=>ey i a e):=(by funext e;exact propext ⟨λd=>⟨n,d⟩,λd=>d.2⟩);rw[<-o];exact f
 rintro⟨m,_⟩ f;simp only at f;simp only[ac.ff,ac.aj];have u:∀h,(q:h<m.length)->(m[h]=true↔iB i h a):=by
  intro h q;have v:=f.len;rcases bj h a with d|d
  ·have:=f.iff h d;rw[bA q,bH] at this;rw[this,<-Ie D d];constructor
   ·exactλl=>.inr ⟨d,l⟩
   rintro(o|⟨_,l⟩)
   ·omega
   exact l
  obtain rfl:h=a:=U;have:=f.top;rw[bA q,bH] at this;rw[this];exact⟨λ_=>.inl rfl,λ_=>rfl⟩
 have v:=f.len;refine ac.for (i0:=0) m.length (λb r=>r.1=m/\r.2.1=((List.range b).filter λw=>decide (iB i w a)).map λ(w:Nat)=>(w:Int)) rfl ⟨rfl,rfl⟩ (eL _) ?_ ?_
 ·rintro b ⟨x,y,_⟩ _ g ⟨rfl,k⟩;simp only at k g v u;have J:y.length<=b:=by
   rw[k,gR];exact bt (jq _ _) ab
  simp only[ac.eM,ac.ff,ac.sy,ac.rW,ac.aj,ac.FW,du];refine⟨λ_=>⟨⟨U,g⟩,g,λp=>⟨?_,jN U,trivial,?_⟩,λp=>⟨jN U,trivial,?_⟩⟩,λj=>by simp at j;omega⟩
  ·simp;omega
  ·have:=(u b g).1 p;rw[oH,nw,h6,<-k];simp[this]
  have:¬iB i b a:=λd=>(by rw[(u b g).2 d] at p;cases p);rw[oH,nw,h6,<-k];simp[this]
 rintro⟨x,y,_⟩ ⟨rfl,k⟩;simp only at k;simp only[ac.eM,ac.aj];refine⟨λj=>by simp at j,λ_=>?_⟩;rw[k];unfold kV;rw[v]
open Classical in
def Ld (c:cE) (b a:Nat):jf c b (a+1)=jf c b a++(if b<=a/\iB c b a then[(a:Int)] else[]):=by
 unfold jf;rw[oH,nw,h6];congr 1;by_cases d:b<=a/\iB c b a
 ·rw[al d];simp[d]
 rw[ah d];simp only[k8,List.filter_nil];rw[ah (by simpa using d)];rfl
theorem Js (r:fj i) (s:∀C∈i,C.length<4611686018427387904) (u:i.length<=200):x6 ((i,()),())=some ((List.range i.length).map (be i),0,()):=by
 classical
 rw[<-ac.eq_iff];unfold x6;have K:fh=4294967296:=rfl;simp only[ac.ff];refine(JK i s u r).mono ?_;rintro⟨N,H,_⟩ ⟨t,n⟩;simp only at t n;subst t;have B:=n.len;simp only[ac.eM,ac.ff,ac.aj,ac.BI,du];refine⟨λc=>by simp at c,λ_=>⟨⟨U,U,U⟩,?_⟩⟩;rw[B];refine ac.for (i0:=0) i.length (λb m=>m.1=(List.range i.length).map λa=>jf i a b) rfl ?_ (eL _) ?_ ?_
 ·apply h4;intro l;simp[jf,lP];split<;>simp_all
 ·rintro b ⟨E,_⟩ _ x j;simp only at j;simp only[ac.eM,ac.ff,R7 r s n x u,ac.aj];refine⟨λ_=>?_,λe=>by simp at e;omega⟩;have M:=R6 i b;refine ac.mono (P:=λF=>F.1=(List.range i.length).map λa=>jf i a (b+1)) ?_ ?_
  ·refine ac.for (i0:=0) (kV i b).length (λl m=>m.2.1=kV i b/\m.1=(List.range i.length).map λa=>jf i a b++(if(a:Int)∈(kV i b).take l then[(b:Int)] else[])) rfl ?_ (eL _) ?_ ?_
   ·refine⟨rfl,?_⟩;rw[j];simp
   ·rintro l ⟨h,G,_⟩ _ g ⟨k,d⟩;simp only at k d;subst k;obtain⟨a,o,J,_⟩:=Ou (dj g);have L:h.length=i.length:=(by rw[d];simp);have f:a<h.length:=U;have A:(a:Int)∉(kV i b).take l:=λp=>by
     obtain⟨D,y,z⟩:=g9.1 p;simp only[eD] at y;simp only[List.getElem_take] at z;have:=(hg.1 (R5 i b)) D l U g U;omega
    have v:h[a]=jf i a b:=(by have:h[a]?=some (jf i a b):=(by rw[d,gn,wl U];simp only[hl];rw[ah A,p7]);rw[bA f] at this;exact dp this);have I:=Ey i a b;simp only[ac.eM,ac.ff,ac.sy,ac.rW,ac.aj,ac.FW,du,o,oJ,Bool.and_self,ac.oa];refine⟨λ_=>⟨⟨U,g⟩,g,⟨U,f⟩,f,?_,⟨U,f⟩,λ_=>⟨f,f,jN U,trivial,?_⟩,λc=>by cases c⟩,λe=>by simp at e;omega⟩
    ·rw[v];simp;omega
    apply h4;intro q;rw[List.getElem?_set];by_cases w:a=q
    ·subst w;rw[al rfl,al f,gn,wl (U:a<i.length)];simp only[hl];rw[v,al];rw[<-tb g,o];simp
    rw[ah w,d,gn,gn];rcases bj q i.length with c|c
    ·rw[wl c];simp only[hl];congr 2;rw[<-tb g,o];have:((q:Int)=(a:Int))↔False:=iff_of_false U id;simp only[eI,eV,this,or_false]
    rw[hD (by simpa using c)];rfl
   rintro⟨h,G,_⟩ ⟨k,d⟩;simp only at k d;subst k;simp only[ac.eM,ac.aj];refine⟨λe=>by simp at e,λ_=>?_⟩;rw[d,tD];refine ht λa _=>?_;rw[Ld];congr 1;by_cases c:a<=b/\iB i a b
   ·rw[al c,al (Gc.2 c)]
   rw[ah c,ah (λp=>c (Gc.1 p))]
  rintro⟨h,_⟩ d;exact⟨jN U,d⟩
 rintro⟨E,_⟩ j;simp only at j;simp only[ac.eM,ac.aj];refine⟨λe=>by simp at e,λ_=>?_⟩;rw[j];rfl
end
def oT (a:cC) (b c:Nat):Bool:=(a.getD b []).getD c false
def n1 (c:cC) (b d:Nat):cP:=((List.range d).filter λa=>b !=a&&(oT c b a||oT c a b)).map λ(a:Nat)=>(a:Int)
def il (a:cC):cE:=(List.range a.length).map λb=>n1 a b a.length
def N0 (b:cC) (c a:Nat):(n1 b c a).length<=a:=by unfold n1;rw[gR];exact bt (jq _ _) ab
def BL {e:cC}:(a:Int)∈n1 e b f↔a<f/\b≠a/\(oT e b a||oT e a b)=true:=by
 unfold n1;simp only[c4,gp,ha,a5,bne_iff_ne];constructor
 ·rintro⟨g,⟨c,d⟩,h⟩;have:g=a:=U;subst this;exact⟨c,d⟩
 exactλ⟨c,d⟩=>⟨a,⟨c,d⟩,rfl⟩
def Fe (c:cC):fj (il c):=by
 have h:(il c).length=c.length:=(by simp[il]);have d:∀a,(b:a<(il c).length)->(il c)[a]=n1 c a c.length:=λa b=>(by simp[il]);refine⟨λa b=>?_,λa b=>?_,λa b j i e=>?_⟩
 ·rw[d a b,h];refine⟨CN _ _,λm f=>?_⟩;unfold n1 at f;simp only[c4,gp,ha] at f;obtain⟨k,⟨l,_⟩,rfl⟩:=f;omega
 ·rw[d a b,BL];exactλg=>g.2.1 rfl
 rw[d a b,BL] at e;rw[d j i,BL];exact⟨U,e.2.1.symm,by rw[Bool.or_comm];exact e.2.2⟩
def MK (a:cC):(il a).length=a.length:=by simp[il]
def ML (c:cC):∀b∈il c,b.length<=c.length:=by intro b a;unfold il at a;simp only[c4,ha] at a;obtain⟨d,_,rfl⟩:=a;exact N0 _ _ _
def iP {b:List e} {c:e} (d:b[a]?=some c):aL b (a:Int)=some c:=by unfold aL;rw[al U,du,d]
def Ka (c:cE):fj c↔∀a,(g:a<c.length)->c[a].Pairwise (· < ·)/\∀b,(e:b<c[a].length)->(0<=c[a][b]/\c[a][b]<c.length)/\c[a][b]≠(a:Int)/\(a:Int)∈c.getD (c[a][b]).toNat []:=by
 constructor
 ·rintro⟨j,l,m⟩ a d;refine⟨(j a d).1,λb e=>?_⟩;have k:=(j a d).2 _ (dj e);refine⟨k,λf=>l a d (f▸dj e),?_⟩;have h:(c[a][b]).toNat<c.length:=U;have:=m a d _ h (by rw[Int.toNat_of_nonneg k.1];exact dj e);rw[List.getD,bA h];exact this
 intro g;refine⟨λa d=>⟨(g a d).1,λp n=>?_⟩,λa d i=>?_,λa d o h i=>?_⟩
 ·obtain⟨b,e,rfl⟩:=g9.1 n;exact((g a d).2 b e).1
 ·obtain⟨b,e,f⟩:=g9.1 i;exact((g a d).2 b e).2.1 f
 obtain⟨b,e,f⟩:=g9.1 i;have:=((g a d).2 b e).2.2;rw[f,du,List.getD,bA h] at this;exact this
def Ud:c.Nodup↔∀a,(d:a<c.length)->c[a]∉c.take a:=by
 unfold List.Nodup;rw[hg];constructor
 ·intro d a e h;obtain⟨j,g,b⟩:=g9.1 h;simp only[eD] at g;simp only[List.getElem_take] at b;exact d j a U e U b
 intro d a i e f k b;exact d i f (g9.2 ⟨a,by simp;omega,by simp[b]⟩)
section
def aS {α:Type} (b:Nat) (a:Nat->α):List α:=(List.range b).map a
def eT {α:Type} (b:Nat->α) (c:Nat) (d:α):Nat->α:=λa=>if a=c then d else b a
section
variable {α A B:Type}
def lG (c:Nat->α) (a:Nat) (b:α):eT c a b a=b:=al rfl
def lF (c:Nat->α) (e:α) (d:a≠b):eT c b e a=c a:=ah d
def dy (a:Nat) (b:Nat->α):(aS a b).length=a:=by simp[aS]
def qM (c:Nat) (d:Nat->α) (b:Nat):(aS c d)[b]?=if b<c then some (d b) else none:=by
 unfold aS;rw[gn];rcases bj b c with a|a
 ·rw[wl a,al a];rfl
 rw[hD (by simpa using a),ah U];rfl
def ss {c:Nat->α} (d:a<b):(aS b c)[a]?=some (c a):=by rw[qM,al d]
def iM {c:Nat->α} (d:a<(aS b c).length):(aS b c)[a]=c a:=by simp[aS]
def fg {c d:Nat->α} (e:∀b,b<a->c b=d b):aS a c=aS a d:=ht λb f=>e b (ha.1 f)
def MA (a:Nat->α):aS 0 a=[]:=rfl
def u0 (b:Nat) (a:Nat->α):aS (b+1) a=aS b a++[a b]:=by simp[aS,oH]
def mV (a:Nat) (b:α):List.replicate a b=aS a λ_=>b:=by apply h4;intro c;rw[lP,qM]
def jh {d:Nat->α} (f:α):(aS b d).set a f=aS b (eT d a f):=by
 apply h4;intro e;rw[List.getElem?_set,qM,qM,dy];unfold eT;by_cases c:a=e
 ·subst c;simp
 have h:¬e=a:=λg=>c (Eq.symm g);simp only[ah c,ah h]
def My (c:List α) (d:Nat->α) (e:∀a,(b:a<c.length)->c[a]=d a):c=aS c.length d:=by
 apply h4;intro a;rw[qM];split
 ·rename_i b;rw[bA b,e a b]
 rename_i b;exact hD U
def Mz (d b:Nat) (c:Nat->α) (f:b<=d):(aS d c).take b=aS b c:=by
 apply h4;intro e;rw[rJ,qM,qM];by_cases a:e<b
 ·rw[al a,al a,al U]
 rw[ah a,ah a]
def gU (c:a<b):bL b (a:Int)=some a:=by unfold bL;rw[al ⟨U,by simpa using c⟩];simp
def nD {d:List α} {c:α} {b:α->Option A} (e:d[a]?=some c):bC d a b=b c:=by unfold bC;rw[e]
def iG {c:Nat->α} {d:α->Option A} (e:a<b):bC (aS b c) a d=d (c a):=nD (ss e)
def Fk {c:Nat->α} (d:a<b):aL (aS b c) (a:Int)=some (c a):=iP (ss d)
def eF (b:a<=4294967296):dd a=some ():=al b
def hR (b:a<=4294967296):e6 (a:Int) (a:Int)=some a:=by unfold e6;rw[al ⟨U,U,by have:fh=4294967296:=rfl;omega⟩];simp
def vt:fD (a:Int)=some a:=by unfold fD;rw[al U];simp
def yG (c:b<=a/\a<=f):gg b a f=some ():=al c
def Rs (b:0<a):zc a=some ():=rfl
def dD (a b:Int):(a==b)=decide (a=b):=by by_cases c:a=b<;>simp[c]
def dA (a b:Int):(a !=b)=!decide (a=b):=by by_cases c:a=b<;>simp[c]
def aC [Decidable n] (a:n):decide n=true:=decide_eq_true a
def ay [Decidable n] (a:¬n):decide n=false:=decide_eq_false a
def bw {a c:α} (b:s=true):(bif s then a else c)=a:=by rw[b];rfl
def bq {c a:α} (b:s=false):(bif s then c else a)=a:=by rw[b];rfl
def bo [Decidable n] {a b:α}:(bif decide n then a else b)=if n then a else b:=by by_cases c:n<;>simp[c]
def EA [Decidable n] {a b:α}:(bif decide n==true then a else b)=if n then a else b:=by by_cases c:n<;>simp[c]
def TN (b:a<9223372036854775808):IntKind.i64.wrap (a:Int)=(a:Int):=wrap64 U U
def Ji (c:1<=a) (b:a<9223372036854775808):IntKind.i64.wrap ((a:Int)-1)=((a-1:Nat):Int):=by rw[wrap64 U U];omega
def rq (b:a+1<9223372036854775808):IntKind.i64.wrap ((a:Int)+1)=((a+1:Nat):Int):=by rw[wrap64 U U];omega
end
def ac.of_eq {α:Type} {c:Option α} {a:α} {b:α->Prop} (d:c=some a) (e:b a):ac c b:=⟨a,d,e⟩
def ac.aX {α A:Type} {c:Option α} {b:α->Option A} {P:α->Prop} {a:A->Prop} (e:ac c P) (f:∀d,P d->ac (b d) a):ac (c.bind b) a:=
 ac.ff.2 (e.mono f)
def ac.ite {α:Type} [Decidable n] {c d:Option α} {b:α->Prop} (e:n->ac c b) (f:¬n->ac d b):ac (if n then c else d) b:=by
 by_cases a:n
 ·rw[al a];exact e a
 rw[ah a];exact f a
def ao {α A:Type} {c:Option α} {a:α->Option A} {y:α} {b:Option A} (d:c=some y) (e:a y=b):c.bind a=b:=by rw[d];exact e
def vf {j:Type} {g:Int×e->Option ((Int×e)⊕j)} {h:j} {i:e} (c:Nat) (b:Nat->e) (f:Nat) (o:d=(f:Int)) (q:i=b f) (n:f<=c) (p:∀a,f<=a->a<c->g ((a:Int),b a)=some (.inl (((a+1:Nat):Int),b (a+1)))) (m:g ((c:Int),b c)=some (.inr h)):loop g (d,i)=some h:=by
 subst o q;rw[<-ac.eq_iff];refine ac.for c (λa r=>r=b a) rfl rfl n ?_ ?_
 ·rintro a _ k l rfl;rw[p a k l];exact ac.aj.2 ⟨rfl,rfl⟩
 rintro _ rfl;rw[m];exact ac.aj.2 rfl
def N7 {g:Int×Unit->Option cb} (e:Nat) (c:Nat->Prop) (k:∀a,a<e->g ((a:Int),())=some (open Classical in if c a then .inl (((a+1:Nat):Int),()) else .inr (.inr ((a:Int),())))) (j:g ((e:Int),())=some (.inr (.inl ()))):ac (loop g (0,())) (λl=>match l with|.inl _=>∀a,a<e->c a|.inr m=>0<=m.1/\¬∀a,a<e->c a):=by
 classical
 refine ac.for e (λa _=>∀b,b<a->c b) (i0:=0) rfl (λb d=>by omega) (eL _) ?_ ?_
 ·rintro a ⟨⟩ _ i h;rw[k a i];by_cases f:c a
  ·rw[al f];refine ac.aj.2 ⟨rfl,λb n=>?_⟩;rcases bj b a with d|d
   ·exact h b d
   obtain rfl:b=a:=U;exact f
  rw[ah f];exact ac.aj.2 ⟨by show(0:Int)<=(a:Int);omega,λd=>f (d a i)⟩
 rintro⟨⟩ h;rw[j];exact ac.aj.2 h
end
def C4 (a:Int):IntKind.u32.wrap a=a %4294967296:=by unfold IntKind.wrap;exact ah (ab:¬(false&&decide (a %4294967296>=(2147483648:Int)))=true)
def v9 (a:Int):IntKind.u64.wrap a=a %18446744073709551616:=by unfold IntKind.wrap;exact ah (ab:¬(false&&decide (a %18446744073709551616>=(9223372036854775808:Int)))=true)
def rp (a:0<=d) (b:d<18446744073709551616):IntKind.u64.wrap d=d:=by rw[v9];omega
def C5 (a:0<=d) (b:d<4294967296):IntKind.u32.wrap d=d:=by rw[C4];omega
def mQ (b:a<18446744073709551616):(BitVec.ofInt 64 (a:Int)).toNat=a:=by rw[BitVec.ofInt_natCast,BitVec.toNat_ofNat];exact Nat.mod_eq_of_lt b
def wO (b:a<4294967296):(BitVec.ofInt 32 (a:Int)).toNat=a:=by rw[BitVec.ofInt_natCast,BitVec.toNat_ofNat];exact Nat.mod_eq_of_lt b
def DL (d:a<18446744073709551616) (e:b<18446744073709551616):bT .u64 (a:Int) (b:Int)=((a&&&b:Nat):Int):=by have c:((BitVec.ofInt 64 (a:Int))&&&(BitVec.ofInt 64 (b:Int))).toNat=a&&&b:=(by rw[BitVec.toNat_and,mQ d,mQ e]);have f:a&&&b<=a:=Nat.and_le_left;unfold bT;rw[show IntKind.u64.bits=64 from rfl,c];exact rp U U
def DK (d:a<4294967296) (e:b<4294967296):bT .u32 (a:Int) (b:Int)=((a&&&b:Nat):Int):=by have c:((BitVec.ofInt 32 (a:Int))&&&(BitVec.ofInt 32 (b:Int))).toNat=a&&&b:=(by rw[BitVec.toNat_and,wO d,wO e]);have f:a&&&b<=a:=Nat.and_le_left;unfold bT;rw[show IntKind.u32.bits=32 from rfl,c];exact C5 U U
def Q4 (c:a<18446744073709551616) (d:b<18446744073709551616):dP .u64 (a:Int) (b:Int)=((a|||b:Nat):Int):=by have e:(BitVec.ofInt 64 (a:Int)|||BitVec.ofInt 64 (b:Int)).toNat=a|||b:=(by rw[BitVec.toNat_or,mQ c,mQ d]);have f:a|||b<2^64:=Nat.or_lt_two_pow c d;unfold dP;rw[show IntKind.u64.bits=64 from rfl,e];exact rp U U
def Q3 (c:a<4294967296) (d:b<4294967296):dP .u32 (a:Int) (b:Int)=((a|||b:Nat):Int):=by have e:(BitVec.ofInt 32 (a:Int)|||BitVec.ofInt 32 (b:Int)).toNat=a|||b:=(by rw[BitVec.toNat_or,wO c,wO d]);have f:a|||b<2^32:=Nat.or_lt_two_pow c d;unfold dP;rw[show IntKind.u32.bits=32 from rfl,e];exact C5 U U
def oO (a:Nat) (c:0<=d) (i:d<18446744073709551616) (b:Int) (f:a<=64) (g:b=2^a-1):bT .u64 d b=d %2^a:=by obtain⟨k,rfl⟩:=ea c;have h:0<2^a:=e8 a;have e:b=((2^a-1:Nat):Int):=(by rw[g,Int.natCast_sub h];simp);have j:2^a<=2^64:=nz aa f;rw[e,DL U U,Nat.and_two_pow_sub_one_eq_mod];simp
def and_low32 (a:0<=d) (b:d<18446744073709551616):bT .u64 d 4294967295=d %4294967296:=oO 32 a b _ aa aa
def k1 (a:Int):db .u64 a 32=some (a/4294967296):=by have:db .u64 a 32=some (a.fdiv 4294967296):=rfl;rw[this,wg _ aa]
def kZ (a:0<=d) (b:d<=64):fL .u64 r d=some ((r*2^d.toNat) %18446744073709551616):=by unfold fL;rw[al a,v9,show IntKind.u64.bits=64 from rfl,fW U]
def pO (a:0<=d) (b:d<=64):db .u64 r d=some (r/2^d.toNat):=by unfold db;rw[al a,show IntKind.u64.bits=64 from rfl,fW U,wg _ (by exact Int.pow_nonneg aa)]
def DO (c:Nat) (d:a<2^c):a|||(b*2^c)=a+b*2^c:=by rw[Nat.add_comm,Nat.or_comm,hj,Nat.two_pow_add_eq_or_of_lt d]
def kh (a:Nat) (e:0<=d) (f:d<2^a) (g:0<=r) (l:d<18446744073709551616) (m:r<18446744073709551616) (i:r %2^a=0):dP .u64 d r=d+r:=by obtain⟨c,rfl⟩:=ea e;obtain⟨b,rfl⟩:=ea g;have k:c<2^a:=(by have:((c:Nat):Int)<((2^a:Nat):Int):=(by simpa using f);omega);have j:b %2^a=0:=(by have:((b %2^a:Nat):Int)=0:=(by simpa using i);omega);rw[Q4 U U];have h:b=(b/2^a)*2^a:=(by have:=qe b (2^a);rw[j,hj] at this;omega);rw[h,DO a k];simp
def aw (a:Nat):Nat:=if a=0 then 0 else a.log2+1
def bY {k:Nat}:aw a<=k↔a<2^k:=by
 unfold aw;split
 ·rename_i b;subst b;simp;exact e8 k
 rename_i b;rw[<-Nat.log2_lt b];omega
def oU:a<aw b↔2^a<=b:=by rw[<-Nat.not_le,bY,Nat.not_lt]
def gZ (a b:Nat) (c:a<=b):2^a<=2^b:=nz aa c
def y7 (a b:Nat) (c:a<b):2^a<2^b:=Nat.pow_lt_pow_right aa c
def je (c:b<=a):aw b<=aw a:=by rw[bY];have:=bY.1 (a2 (aw a));omega
def nG {k l:Nat} (c:aw a<=k) (d:aw b<=l):aw (a*b)<=k+l:=by rw[bY,dv];exact Nat.mul_lt_mul'' (bY.1 c) (bY.1 d)
def Gr {c:Nat} (d:b<=c*a) (e:f<a):b+f<=(c+1)*a:=by rw[e2,fG];omega
def Eg (c:Nat) (d:aw a<=c) (e:aw b<=c):aw (a+b)<=c+1:=by rw[bY] at*;rw[hI];omega
def Ru {e:Nat} (d:f*2^b=a*2^e) (h:0<f):0<a:=by
 rcases hh a with c|c
 ·rw[c,Nat.zero_mul] at d;have:=e8 b;rcases Nat.mul_eq_zero.1 d with g|g<;>omega
 exact c
def nH {m:Nat} (a:0<m):0<aw m:=oU.2 a
def KH:aw 0=0:=rfl
def Eh {k:Nat} (b:2^k<=a) (c:a<2^(k+1)):aw a=k+1:=by have:=oU.2 b;have:=bY.2 c;omega
def nF (b:0<a):2^(aw a-1)<=a/\a<2^aw a:=
 ⟨oU.1 (by have:=nH b;omega),bY.1 (a2 _)⟩
def ie (d:0<a) (b:Nat):aw (a*2^b)=aw a+b:=by
 obtain⟨e,f⟩:=nF d;have h:=e8 b;have i:=nH d;obtain⟨c,g⟩:∃c,aw a=c+1:=⟨aw a-1,U⟩;rw[g] at e f|-;rw[(U:c+1+b=(c+b)+1)];refine Eh ?_ ?_
 ·rw[dv];exact dG _ (by simpa using e)
 rw[(U:c+b+1=(c+1)+b),dv];exact zO f h
def tR (b a:Nat):aw (b/2^a)=aw b-a:=by
 have c:=e8 a;apply Nat.le_antisymm
 ·rw[bY,Nat.div_lt_iff_lt_mul c,<-dv];exact bY.1 U
 rcases bj a (aw b) with d|d
 ·have:aw b-a-1<aw (b/2^a):=by
   rw[oU,tH c,<-dv];exact oU.1 U
  omega
 omega
def pV (c:Bool) (b:Int) (d:Bool) (a:Int):Bool:=
 if a=1 then c else if a=2 then !c else if a=3 then false else decide (0<b)||(decide (b=0)&&d)
def iJ (b a:Nat) (c:Bool):Int:=
 if 2*(b %2^a)<2^a then-1 else if 2^a<2*(b %2^a) then 1 else if c then 1 else 0
def eN (e:Bool) (a b:Nat) (c:Bool) (d:Int):Nat:=
 if a %2^b=0/\c=false then a/2^b
 else if pV e (iJ a b c) (decide (a/2^b %2=1)) d then a/2^b+1 else a/2^b
def OG (b a c:Nat):b %2^(a+c)=(b/2^a %2^c)*2^a+b %2^a:=by rw[dv,Nat.mod_mul,Nat.add_comm,hj]
def gB (b:Bool) (a:Int):Int:=if b then 9223372036854775808+a else a
def kP (a:Bool) (b:Int):Int:=
 if b=3\/(b=1/\a=false)\/(b=2/\a=true) then gB a 9218868437227405311 else gB a 9218868437227405312
def g0 (a:Bool) (b:Nat) (c d:Int):Int:=
 if b<4503599627370496 then gB a b
 else if b=9007199254740992 then if c+1+1075>=2047 then kP a d else gB a ((c+1+1075)*4503599627370496)
 else if c+1075>=2047 then kP a d else gB a ((c+1075)*4503599627370496+(b-4503599627370496))
def bg (b:Nat) (a:Int):Int:=max (a+aw b-1-52) (-1074)
def g2 (d:Bool) (b:Nat) (a:Int) (e:Bool) (c:Int):Int:=
 if bg b a<=a then g0 d (b*2^(a-bg b a).toNat) (bg b a) c
 else g0 d (eN d b (bg b a-a).toNat e c) (bg b a) c
def lw:Nat->Nat->Nat
 |0,_=>0
 |f+1,a=>if(2*lw f (a/4)+1)*(2*lw f (a/4)+1)<=a then 2*lw f (a/4)+1 else 2*lw f (a/4)
def bW (a:Nat):Nat:=lw (aw a) a
theorem Nv:∀{b n:Nat},n<4^b->lw b n*lw b n<=n/\n<(lw b n+1)*(lw b n+1):=by
 intro b
 induction b with
 |zero=>intro n c;simp at c;subst c;simp[lw]
 |succ b i=>
  intro n c;obtain⟨g,h⟩:=i (n:=n/4) (by rw[hI] at c;omega);unfold lw;generalize lw b (n/4)=a at g h|-;have ai:(2*a+1)*(2*a+1)=4*(a*a)+4*a+1:=(by grind);have e:(2*a+1+1)*(2*a+1+1)=4*((a+1)*(a+1)):=(by grind);have f:2*a*(2*a)=4*(a*a):=(by grind);split
  ·rename_i d;exact⟨d,by rw[e];omega⟩
  rename_i d;exact⟨by rw[f];omega,U⟩
def sB (a:Nat):bW a*bW a<=a/\a<(bW a+1)*(bW a+1):=by refine Nv ?_;have b:a<2^aw a:=bY.1 (a2 _);exact fF b (Nat.pow_le_pow_left aa _)
def CO (d:a*a<=f) (e:f<(b+1)*(b+1)):a<=b:=by
 rcases bj b a with c|c
 ·have:=hH (show b+1<=a from c) (show b+1<=a from c);omega
 exact c
def Nw (c:a*a<=b) (d:b<(a+1)*(a+1)):bW b=a:=by obtain⟨e,f⟩:=sB b;exact Nat.le_antisymm (CO e d) (CO c f)
abbrev mz:=Bool×cP×Unit
abbrev Ju:=Bool×mz×Int×Unit
def eB (a:mz):Int:=if a.1 then-ae a.2.1 else ae a.2.1
def aD (a:Int):mz:=(decide (a<0),bI a.natAbs,())
def lH (a:Int):eB (aD a)=a:=by unfold eB aD;simp only[iL,decide_eq_true_eq];split<;>omega
def jA (a:Int):aH (aD a).2.1:=ij _
def yj (a:Int):dq (aD a).2.1:=ls _
def gL (a:Int):ae (aD a).2.1=a.natAbs:=iL _
def uT:(aD d).2.1=[]↔d=0:=by show bI d.natAbs=[]↔_;rw[AJ];omega
def EO {neg:Bool} (b:aH c) (f:dq c):(neg&&decide (c≠[]),c,())=aD (eB (neg,c,())):=by
 have h:=dY b;have d:c=bI (ae c).toNat:=dq.eq b f;have e:c=[]↔ae c=0:=⟨λa=>by rw[a];rfl,dq.zero b f⟩;unfold aD eB;cases neg
 ·simp only[Bool.false_and,Bool.false_eq_true,if_false];rw[show decide (ae c<0)=false from decide_eq_false U,(U:(ae c).natAbs=(ae c).toNat),<-d]
 simp only[Bool.true_and,if_true];rw[(U:(-ae c).natAbs=(ae c).toNat),<-d];congr 1;rw[decide_eq_decide];constructor
 ·intro a;have:=mt e.2 a;omega
 intro a g;have:=e.1 g;omega
def zy:Nat->Nat->Nat
 |0,_=>0
 |f+1,a=>if a %2=0 then zy f (a/2)+1 else 0
def bb (a:Nat):Nat:=if a=0 then 0 else zy (aw a) a
def Tl:∀{a n:Nat},0<n->n<2^a->∃b,n=(2*b+1)*2^zy a n:=by
 intro a
 induction a with
 |zero=>intro n e c;simp at c;omega
 |succ a g=>
  intro n e c;unfold zy;split
  ·rename_i d;obtain⟨b,f⟩:=g (n:=n/2) U (by rw[hI] at c;omega);refine⟨b,?_⟩;rw[hI,<-fv,<-f];omega
  rename_i d;exact⟨n/2,by simp;omega⟩
def pU {n:Nat} (b:0<n):∃a,n=(2*a+1)*2^bb n:=by unfold bb;rw[ah U];exact Tl b (bY.1 (a2 _))
def GG:∀{s t a b:Nat},(2*a+1)*2^s=(2*b+1)*2^t->s=t/\a=b
 |0,0,a,b,c=>by simp at c;omega
 |0,t+1,a,b,c=>by rw[hI,<-fv] at c;simp at c;omega
 |s+1,0,a,b,c=>by rw[hI,<-fv] at c;simp at c;omega
 |s+1,t+1,a,b,c=>by rw[hI,<-fv,hI,<-fv] at c;obtain⟨e,d⟩:=GG (s:=s) (t:=t) (a:=a) (b:=b) U;exact⟨U,d⟩
def td {a:Nat} (c:b=(2*a+1)*2^f):bb b=f:=by have g:=e8 f;have d:0<b:=(by rw[c];exact Nat.mul_pos U g);obtain⟨h,e⟩:=pU d;exact(GG (e.symm.trans c)).1
def v5 (e:0<b) (c:Nat):bb (b*2^c)=bb b+c:=by obtain⟨d,f⟩:=pU e;refine td (a:=d) ?_;rw[dv,<-fv,<-f]
def Tm {n:Nat} (a:0<n):n/2^bb n %2=1:=by
 obtain⟨d,b⟩:=pU a;have c:=e8 (bb n)
 conv=>lhs;lhs;lhs;rw[b]
 rw[Nat.mul_div_cancel _ c];omega
def pT {n:Nat} (b:0<n):bb n<aw n:=by
 obtain⟨a,c⟩:=pU b;rw[oU]
 conv=>rhs;rw[c]
 have:=dG (2^bb n) (U:1<=2*a+1);omega
theorem pv {n k:Nat} (f:0<n):k<=bb n↔n %2^k=0:=by
 obtain⟨e,b⟩:=pU f;constructor
 ·intro l;obtain⟨a,c⟩:∃a,bb n=a+k:=⟨bb n-k,U⟩;rw[c,dv,<-fv] at b
  conv=>lhs;rw[b]
  exact Nat.mul_mod_left _ _
 intro i;rcases bj (bb n) k with d|d
 ·exfalso;obtain⟨a,c⟩:∃a,k=bb n+(a+1):=⟨k-bb n-1,U⟩;have g:n=n/2^k*2^k:=(by have:=qe n (2^k);rw[i,hj] at this;omega);have j:=e8 (bb n);have h:(2*e+1)*2^bb n=(2*(n/2^k*2^a))*2^bb n:=by
   rw[<-b]
   conv=>lhs;rw[g,c,dv,hI]
   grind
  have:=Nat.eq_of_mul_eq_mul_right j h;omega
 exact d
def mu (b a:Int):Int:=b*2^a.toNat/2^(-a).toNat
def ed (a b:Int):cJ:=
 if a=0 then some 0
 else if b+bb a.natAbs< -65536\/65536<b+aw a.natAbs then none
 else some (mu a (b+65536))
def a6:cJ->Ju
 |none=>(true,(false,[],()),0,())
 |some a=>if a=0 then(false,(false,[],()),0,()) else(false,aD (a/2^bb a.natAbs),(bb a.natAbs:Int)-65536,())
def dT (a:Int):Prop:=aw a.natAbs<=131072
instance(a:Int):Decidable (dT a):=inferInstanceAs (Decidable (_<=_))
def hN (a:Int):cJ:=if dT a then some a else none
def dx (b:cJ):Prop:=∀a,b=some a->dT a
def eR (b:Int) (a:Nat):(b*2^a).natAbs=b.natAbs*2^a:=by rw[jV,Int.natAbs_pow];rfl
def uR (b:d.natAbs %2^a=0):d/2^a*2^a=d:=by have c:((2^a:Nat):Int)∣d:=Int.ofNat_dvd_left.2 (Nat.dvd_of_mod_eq_zero b);rw[(ab:(2:Int)^a=((2^a:Nat):Int))];exact Int.ediv_mul_cancel c
def vr (b:d.natAbs %2^a=0):(d/2^a).natAbs=d.natAbs/2^a:=by
 have c:=uR b;have e:=e8 a
 conv=>rhs;rw[<-c,eR,Nat.mul_div_cancel _ e]
def kY (b:Int) (a:Nat):mu b a=b*2^a:=by unfold mu;rw[du,(U:(-(a:Int)).toNat=0)];simp
def s8 (b:Int) (a:Nat):mu b (-(a:Int))=b/2^a:=by unfold mu;rw[Int.neg_neg,du,(U:(-(a:Int)).toNat=0)];simp
def aR (a:Int):Int:=a/2^bb a.natAbs
def bh (a:Int):Int:=(bb a.natAbs:Int)-65536
def mi (a:Int):aR a*2^bb a.natAbs=a:=by
 rcases hh a.natAbs with b|b
 ·obtain rfl:a=0:=U;rfl
 exact uR ((pv b).1 (a2 _))
def GC (a:d≠0):(aR d).natAbs=d.natAbs/2^bb d.natAbs:=vr ((pv U).1 (a2 _))
def gP {v:Int} (b:v≠0):aR v≠0:=λa=>by have:=mi v;rw[a] at this;simp at this;exact b this.symm
def GF (b:d≠0):bb (aR d).natAbs=0:=by rw[GC b];have:=Tm (n:=d.natAbs) U;exact td (a:=d.natAbs/2^bb d.natAbs/2) (by rw[Nat.pow_zero];omega)
def BW (a:d≠0):aw (aR d).natAbs=aw d.natAbs-bb d.natAbs:=by rw[GC a,tR]
def q7 {v:Int}:aR v<0↔v<0:=by
 have d:=mi v;have c:(0:Int)<2^bb v.natAbs:=i9 aa;constructor
 ·intro b;have:=Int.mul_neg_of_neg_of_pos b c;omega
 intro b;rcases g7 (aR v) 0 with a|a
 ·exact a
 have:=kq a (eb c);omega
def EQ (a:d≠0):a6 (some d)=(false,aD (aR d),bh d,()):=by show(if d=0 then _ else _)=_;rw[ah a];rfl
def q3 {v:Int} (h:-65536<=d) (a:v=r*2^(d+65536).toNat):ed r d=hN v:=by
 obtain⟨c,f⟩:∃c:Nat,d+65536=c:=⟨(d+65536).toNat,U⟩;rw[f,du] at a;unfold ed hN;by_cases e:r=0
 ·subst e;simp only[jW] at a;subst a;rw[al rfl,al (show dT 0 from(by decide:aw 0<=131072))]
 rw[ah e];have g:aw v.natAbs=aw r.natAbs+c:=(by rw[a,eR,ie U]);by_cases b:dT v
 ·rw[al b];unfold dT at b;rw[ah U,f,kY,a]
 rw[ah b];unfold dT at b;rw[al U]
def Oz (a:dT d):ed (aR d) (bh d)=some d:=by
 by_cases b:d=0
 ·subst b;rfl
 rw[q3 (v:=d) (by unfold bh;omega) (by
  conv=>lhs;rw[<-mi d]
  unfold bh;rw[(U:((bb d.natAbs:Int)-65536+65536).toNat=bb d.natAbs)])]
 exact al a
def yR (f a:Int):dx (ed f a):=by
 intro i b;unfold ed at b;split at b
 ·cases b;show aw 0<=_;decide
 split at b
 ·cases b
 rename_i g h;cases b;unfold dT;rcases Int.le_total 0 (a+65536) with e|e
 ·obtain⟨c,d⟩:∃c:Nat,a+65536=c:=⟨(a+65536).toNat,U⟩;rw[d,kY,eR,ie U];omega
 obtain⟨c,d⟩:∃c:Nat,a+65536=-(c:Int):=⟨(-(a+65536)).toNat,U⟩;rw[d,s8,vr ((pv U).1 U),tR];omega
def Em (b:Int):dx (hN b):=by
 intro c a;unfold hN at a;split at a
 ·cases a;assumption
 cases a
def vF (a b c:Nat) (f:Bool) (d e:Int):Int:=g2 f (b*2^a/c) (d-a) (decide (b*2^a %c≠0)) e
def Cp {k:Nat} (h:0<a) (e:0<b) (i:58+aw b<=aw a+k):58<=aw (a*2^k/b):=by
 rcases bj 57 (aw (a*2^k/b)) with c|c
 ·exact c
 exfalso;have d:a*2^k/b<2^57:=bY.1 c;rw[Nat.div_lt_iff_lt_mul e] at d;have f:=(nF e).2;have g:a*2^k<2^57*2^aw b:=fF d (j3 _ (j2 f));rw[<-dv,<-bY,ie h] at g;omega
def s5 (a b:Nat) (c d:Int):Int:=g2 false (bW (b*2^a)) ((c-a)/2) (decide (bW (b*2^a)*bW (b*2^a)≠b*2^a)) d
def yB (e:115<=aw a):58<=aw (bW a):=by
 rcases bj 57 (aw (bW a)) with b|b
 ·exact b
 exfalso;have c:bW a+1<=2^57:=bY.1 b;have f:=(sB a).2;have g:=hH c c;have d:a<2^114:=(by have:2^57*2^57=2^114:=(by rw[<-dv]);omega);have:=bY.2 d;omega
def m9 (a b:Int):Int:=if a=0 then 0 else g2 (decide (a<0)) (aR a).natAbs (bh a) false b
def ml (a b:Nat):Nat:=59+aw b-aw a
def mm (a b c:Int):Int:=vF (ml (aR a).natAbs (aR b).natAbs) (aR a).natAbs (aR b).natAbs (decide (a<0)!=decide (b<0)) (bh a-bh b) c
def hW (a:Nat) (b:Int):Nat:=if(b-((118-aw a:Nat):Int)) %2=0 then 118-aw a else 118-aw a+1
def iX (a b:Int):Int:=s5 (hW (aR a).natAbs (bh a)) (aR a).natAbs (bh a) b
def da {b:List e} (c:a<b.length):aL b (a:Int)=some b[a]:=iP (bA c)
def TK (b:a<9223372036854775808):ax (a:Int)=(a:Int):=wrap64 U U
def bf {x:Int} (a:-9223372036854775808<=x) (b:x<=9223372036854775807):ax x=x:=wrap64 a b
def br (b:a<9223372036854775807):aZ (a:Int)=((a+1:Nat):Int):=by unfold aZ;rw[wrap64 U U];simp
def bM {x:Int} (a:0<=x) (b:x<18446744073709551616):aA x=x:=rp a b
def i4 {x:Int} (a:0<=x) (b:x<4294967296):bK x=x:=C5 a b
def nl (a:Int):bK a=a %4294967296:=C4 a
def kn (a:Int):aA a=a %18446744073709551616:=v9 a
def n3 (a:0<=d) (b:d<18446744073709551616):bK (bT IntKind.u64 d 4294967295)=d %4294967296:=by rw[and_low32 a b,i4 U U]
def a1 (a:List e):au a=(a.length:Int):=rfl
def zr {b:List e} (f:a<=b.length):((some (0:Nat)).bind λc=>(fD (a:Int)).bind λd=>(gg c d b.length).map λ_=>(c,d))=some (0,a):=by rw[aQ,vt,aQ,yG ⟨eL _,f⟩];rfl
def lE (o:aH c) (q:c.length<=100000000):fJ (c,())=some (fM c,()):=by
 unfold fJ;refine ac.eq_iff.1 ?_;refine ac.aX (P:=λp=>∃a:Nat,p.1=(a:Int)/\a<=c.length/\(∀b,a<=b->(j:b<c.length)->c[b]=0)/\dq (c.take a)) ?_ ?_
 ·refine ac.loop (λh=>∃a:Nat,h.1=(a:Int)/\a<=c.length/\(∀b,a<=b->(j:b<c.length)->c[b]=0)) (λh=>h.1.toNat) ⟨c.length,rfl,a2 _,λb d f=>by omega⟩ ?_;rintro⟨_,_⟩ ⟨a,rfl,d,f⟩;rcases a with _|a
  ·refine ac.aj.2 ⟨0,rfl,eL _,f,λk e=>by simp at e⟩
  have ai:ax (((a+1:Nat):Int)-1)=(a:Int):=(by rw[bf U U];omega);have l:decide (((a+1:Nat):Int)>0)=true:=aC U;simp only[ai,l,beq_self_eq_true,cond_true,da (show a<c.length from d),aQ];by_cases g:c[a]=0
  ·rw[dD,aC g];refine ac.aj.2 ⟨⟨a,rfl,U,λb j n=>?_⟩,?_⟩
   ·rcases bj a b with i|i
    ·exact f b i n
    obtain rfl:b=a:=U;exact g
   show(a:Int).toNat<((a+1:Nat):Int).toNat;omega
  rw[dD,ay g];refine ac.aj.2 ⟨a+1,rfl,d,f,λk e=>?_⟩;rw[j1,bA d] at e;have e:(c.take a++[c[a]]).getLast?=some k:=e;rw[List.getLast?_concat] at e;cases e;exact g
 rintro⟨_,_⟩ ⟨a,rfl,d,f,m⟩;refine ac.of_eq (ao (zr d) rfl) ?_;show(List.drop 0 (List.take a c),())=_;rw[mF,IR o d f m]
def tV (d:c.length<=100000000):qC (c,())=some (c,()):=by
 unfold qC;have a:((dd (([]:cP).length+c.length)).bind λ_=>some (([]++c:cP),()))=some (c,()):=(by rw[eF (by simp;omega)];rfl);show lz c.length (some ([],())) ((dd (([]:cP).length+c.length)).bind λ_=>some (([]++c:cP),()))=_;unfold lz;rw[a];split
 ·rename_i b;obtain rfl:=k7 b;rw[al rfl]
 rfl
def n2:(au c==0)=decide (c=[]):=by rw[dD,decide_eq_decide];show((c.length:Nat):Int)=0↔_;rw[<-List.length_eq_zero_iff];omega
def rY (b:aH c) (f:c.length<=100000000):iK (s,c,())=some (aD (eB (s,c,())),()):=by
 unfold iK;refine ao (lE b f) ?_;have d:=EO (neg:=s) (IN c) (IP c);have e:eB (s,fM c,())=eB (s,c,()):=(by unfold eB;simp only[IQ b]);rw[<-e,<-d];simp only[n2,bo];split
 ·rename_i a;simp[a]
 rename_i a;simp[a]
def LM (b:d.natAbs<2^(32*a)):(aD d).2.1.length<=a:=by refine pc ?_;unfold aF;have c:(2^(32*a):Nat)=4294967296^a:=(by rw[Nat.pow_mul]);rw[c] at b;have:((4294967296^a:Nat):Int)=4294967296^a:=ab;omega
def Fit (a:Int):Prop:=(aD a).2.1.length<=31250
def LL (a:Nat) (b:aw d.natAbs<=32*a):(aD d).2.1.length<=a:=LM (bY.1 b)
def gT (a:aw d.natAbs<=1000000):Fit d:=LL 31250 U
def O2 {b:mz} (c:aH b.2.1) (a:b.2.1.length<=100000000):xq (b,())=some (aD (eB b),()):=by obtain⟨e,d,_⟩:=b;unfold xq;exact ao (tV a) (ao (rY c a) rfl)
def zD (a:Bool) (b:cP):eB (!a,b,())=-eB (a,b,()):=by unfold eB;cases a<;>simp
def I7 (b:aH c) (a:Bool):eB (false,c,())=(eB (a,c,())).natAbs:=by have:=dY b;unfold eB;cases a<;>simp<;>omega
def Gz (e:Fit d):o2 (aD d,())=some (aD (-d),()):=by unfold o2;have a:(aD d).2.1.length<=100000000:=bt e aa;refine ao (tV a) (ao (rY (jA d) a) ?_);have b:=zD (aD d).1 (aD d).2.1;have c:=lH d;rw[b];show some (aD (-eB (aD d)),())=_;rw[c]
def zZ (c:Fit d):r9 (aD d,())=some (aD d.natAbs,()):=by unfold r9;have a:(aD d).2.1.length<=100000000:=bt c aa;refine ao (tV a) (ao (rY (jA d) a) ?_);rw[I7 (jA d) (aD d).1];have b:=lH d;show some (aD ((eB (aD d)).natAbs:Int),())=_;rw[b]
def IM (b:Fit d):fJ ((aD d).2.1,())=some ((aD d).2.1,()):=by rw[lE (jA d) (bt b aa)];have a:=dq.eq (jA d) (yj d);show some (bI (ae (aD d).2.1).toNat,())=_;rw[<-a]
def dU (a:Int):Int:=if a=0 then 0 else if a<0 then-1 else 1
def oo {z:Int} (a:Fit z):l6 (aD z,())=some (dU z,()):=by
 unfold l6;refine ao (IM a) ?_;simp only[n2,bo,uT];unfold dU;split
 ·rfl
 show(bif decide (z<0) then _ else _)=_;rw[bo];split<;>rfl
def ac.steps {q:Type} {k:e->Option (e⊕q)} {j:q->Prop} (i:Nat) (g:Nat->e->Prop) {n:e} (r:g 0 n) (v:∀c b,c<i->g c b->ac (k b) (λ|.inl l=>g (c+1) l|.inr a=>j a)) (u:∀b,g i b->ac (k b) (λ|.inl _=>False|.inr a=>j a)):ac (h1.loop k n) j:=by
 have x:∀h c b,c+h=i->g c b->∃a,he k (h+1) b=some a/\j a:=by
  intro h
  induction h with
  |zero=>
   intro c b p m;obtain rfl:c=i:=p;obtain⟨o,f,d⟩:=u b m;cases o with
   |inl l=>exact d.elim
   |inr a=>exact⟨a,by simp only[he,f],d⟩
  |succ h w=>
   intro c b p m;obtain⟨o,f,d⟩:=v c b U m;cases o with
   |inl l=>
    obtain⟨a,s,t⟩:=w (c+1) l U d;exact⟨a,by rw[he,f];exact s,t⟩
   |inr a=>exact⟨a,by simp only[he,f],d⟩
 obtain⟨a,f,d⟩:=x i 0 n U r;exact⟨a,vg.2 ⟨_,f⟩,d⟩
def v7 (c:cP) (b:Nat):ae (c.take (b+1))=ae (c.take b)+aF b*c.getD b 0:=by
 rcases bj b c.length with a|a
 ·rw[fU a,h5,bA a];rfl
 rw[dC U,dC a,h5,hD a];simp
def aH.getD {b:cP} (d:aH b) (c:Nat):0<=b.getD c 0/\b.getD c 0<4294967296:=by
 rcases bj c b.length with a|a
 ·rw[h5,bA a];exact d.get a
 rw[h5,hD a];exact⟨jT _,aa⟩
def iO (b:a<c.length):c.getD a 0=c[a]:=by rw[h5,bA b];rfl
def mX (b:c.length<=a):c.getD a 0=0:=by rw[h5,hD b];rfl
theorem Cl (s:aH c) (t:aH m) (y:c.length<=10000000) (z:m.length<=10000000):qA (c,m,())=some (bI (ae c+ae m).toNat,()):=by
 unfold qA;refine ac.eq_iff.1 ?_;refine ac.aX (P:=λh=>∃l q,h=(l,q,())/\aH l/\aH q/\l.length<=10000000/\q.length<=l.length/\ae l+ae q=ae c+ae m) ?_ ?_
 ·simp only[bo];refine ac.ite (λg=>ac.aj.2 ⟨m,c,rfl,t,s,z,?_,Int.add_comm _ _⟩) λg=>ac.aj.2 ⟨c,m,rfl,s,t,y,?_,rfl⟩
  ·simp only[a1] at g;omega
  simp only[a1] at g;omega
 rintro _ ⟨e,j,rfl,B,C,K,D,w⟩;rw[<-w];clear w s t y z;dsimp only;have A:aZ (au e)=((e.length+1:Nat):Int):=br U;have ai:e6 0 ((e.length+1:Nat):Int)=some 0:=(by unfold e6;rw[if_pos ⟨U,U,by have:fh=4294967296:=rfl;omega⟩];rfl);rw[A,ai];refine ac.aX (P:=λh=>∃a d,h=(a,d,())/\d.length=e.length/\aH d/\0<=a/\a<=1/\ae d+aF e.length*a=ae e+ae j) ?_ ?_
 ·refine ac.steps e.length (λb F=>∃a d,F=(a,(b:Int),d,())/\d.length=b/\aH d/\0<=a/\a<=1/\ae d+aF b*a=ae (e.take b)+ae (j.take b)) ⟨0,[],rfl,rfl,aH.nil,U,U,by simp[ae]⟩ ?_ ?_
  ·rintro b _ u ⟨a,d,rfl,k,n,o,r,p⟩;have J:=B.get u;have E:=C.getD b;have i:∃f,f=e[b]+a+j.getD b 0/\0<=f/\f<18446744073709551616/\f/4294967296<=1:=⟨_,rfl,U,U,U⟩;obtain⟨f,i,G,H,I⟩:=i;have v:decide ((b:Int)<au e)=true:=aC (by simp only[a1];omega);simp only[v,cond_true,da u,aQ];refine ac.aX (P:=λh=>h=(f/4294967296,d++[f %4294967296],())) ?_ ?_
   ·refine ac.aX (P:=λh=>h=(f,d,())) ?_ ?_
    ·simp only[bo];refine ac.ite (λg=>?_) λg=>?_
     ·have g:b<j.length:=(by simp only[a1] at g;omega);rw[da g];rw[iO g] at i E;refine ac.aj.2 ?_;rw[bM (x:=e[b]) U U,bM (x:=e[b]+a) U U,bM (x:=j[b]) U U,bM U U,i]
     have g:j.length<=b:=(by simp only[a1] at g;omega);rw[mX g] at i;refine ac.aj.2 ?_;rw[bM (x:=e[b]) U U,bM (x:=e[b]+a) U U,i,Int.add_zero]
    rintro _ rfl;dsimp only;rw[eF (by simp;omega),n3 G H,k1];exact ac.aj.2 rfl
   rintro _ rfl;dsimp only;refine ac.aj.2 ⟨f/4294967296,d++[f %4294967296],by rw[br U],by simp[k],n.snoc U U,U,I,?_⟩;rw[nj,k,fO,fU u,v7];have:=Int.emod_add_mul_ediv f 4294967296;generalize f/4294967296=L at*;generalize f %4294967296=h at*;subst i;grind
  rintro _ ⟨a,d,rfl,k,n,o,r,p⟩;have v:decide ((e.length:Int)<au e)=false:=ay (by simp only[a1];omega);simp only[v,cond_false];refine ac.aj.2 ⟨a,d,rfl,k,n,o,r,?_⟩;rw[p,dC (a2 _),dC D]
 rintro _ ⟨a,d,rfl,k,n,o,r,p⟩;dsimp only;rw[eF (by simp;omega),i4 o U];refine ac.of_eq (ao rfl (ao (lE (n.snoc o U) (by simp;omega)) rfl)) ?_;show(fM (d++[a]),())=_;rw[fM,nj,k,p]
def gJ (b:cP) (c:Nat):Prop:=∀a,c<=a->(d:a<b.length)->b[a]=0
def gJ.ko (b a:Nat):gJ (List.replicate b (0:Int)) a:=λd _ c=>by simp
def gJ.set {b:cP} {a:Nat} (c:gJ b a) (e:Int):gJ (b.set a e) (a+1):=λd f g=>by rw[rK U];exact c d U _
def gJ.CJ {j:Nat} (b:gJ c a) (f:Int) (g:j<a):gJ (c.set j f) a:=λe d h=>by rw[rK U];exact b e d _
theorem Gd (s:aH c) (t:aH m) (E:c.length<=10000000) (v:m.length<=c.length) (C:ae m<=ae c):sd (c,m,())=some (bI (ae c-ae m).toNat,()):=by
 unfold sd;refine ac.eq_iff.1 ?_;simp only[a1,hR (U:c.length<=4294967296),aQ];refine ac.aX (P:=λh=>∃a b,h=(a,())/\a.length=c.length/\aH a/\0<=b/\b<=1/\ae a-aF c.length*b=ae c-ae m) ?_ ?_
 ·refine ac.steps c.length (λe y=>∃b a,y=(b,(e:Int),a,())/\a.length=c.length/\aH a/\gJ a e/\0<=b/\b<=1/\ae a-aF e*b=ae (c.take e)-ae (m.take e)) ⟨0,_,rfl,ab,aH.ko _,gJ.ko _ _,U,U,by simp[ae,ow]⟩ ?_ ?_
  ·rintro e _ o ⟨b,a,rfl,i,g,q,l,n,k⟩;have D:=s.get o;have w:=t.getD e;obtain⟨d,j,z,A⟩:∃d,d=c[e]-b-m.getD e 0/\-4294967296<=d/\d<4294967296:=⟨_,rfl,U,U⟩;have p:decide ((e:Int)<(c.length:Int))=true:=aC U;simp only[a1,p,cond_true,da o,aQ];refine ac.aX (P:=λh=>h=(-(d/4294967296),a.set e (d %4294967296),())) ?_ ?_
   ·refine ac.aX (P:=λh=>h=(d %18446744073709551616,a,())) ?_ ?_
    ·simp only[bo];refine ac.ite (λf=>?_) λf=>?_
     ·have f:e<m.length:=U;rw[da f];rw[iO f] at j w;refine ac.aj.2 ?_;simp only[kn];rw[j];congr 1;omega
     have f:m.length<=e:=U;rw[mX f] at j;refine ac.aj.2 ?_;simp only[kn];rw[j];congr 1;omega
    rintro _ rfl;dsimp only;rw[n3 U U,k4 U,k1];refine ac.aj.2 ?_;rw[oO 1 U U 1 aa aa];have aq:d %18446744073709551616/4294967296 %2^1=-(d/4294967296):=(by rw[show(2:Int)^1=2 from rfl];omega);have x:d %18446744073709551616 %4294967296=d %4294967296:=U;rw[aq,x]
   rintro _ rfl;dsimp only;refine ac.aj.2 ⟨-(d/4294967296),a.set e (d %4294967296),by rw[br U],by simp[i],g.set U U,q.set _,U,U,?_⟩;rw[k2 U,q e (Nat.le_refl _) U,fO,fU o,v7];have:=Int.emod_add_mul_ediv d 4294967296;generalize d/4294967296=F at*;generalize d %4294967296=h at*;subst j;grind
  rintro _ ⟨b,a,rfl,i,g,q,l,n,k⟩;have p:decide ((c.length:Int)<(c.length:Int))=false:=ay U;simp only[a1,p,cond_false];refine ac.aj.2 ⟨a,b,rfl,i,g,l,n,?_⟩;rw[k,dC (a2 _),dC v]
 rintro _ ⟨a,b,rfl,i,g,l,n,k⟩;dsimp only;have r:=fq g;have B:=ev c.length;rw[i] at r;have u:b=0:=by
  rcases g7 0 b with f|f
  ·obtain rfl:b=1:=U;omega
  omega
 subst u;refine ac.of_eq (ao (lE g U) rfl) ?_;show(fM a,())=_;rw[fM,<-k];simp
def dI (a b:Int):Int:=if a<b then-1 else if b<a then 1 else 0
def Ao (a b:Int):r4 (a,b,())=some (dI a b,()):=by
 unfold r4 oZ dI;simp only[bne_self_eq_false,aQ,cond_false,bo];split
 ·rfl
 split
 ·rename_i c d
  first|rfl|(rw[al U])
 first|rfl|(rename_i c d;rw[ah U])
def Lh (a b:Int):wY (a,b,())=some (dI a b,()):=by
 unfold wY w1 dI;simp only[bne_self_eq_false,aQ,cond_false,bo];split
 ·rfl
 split
 ·rename_i c d
  first|rfl|(rw[al U])
 first|rfl|(rename_i c d;rw[ah U])
theorem zE (h:aH c) (i:aH m) (j:a<c.length) (k:a<m.length) (d:ae (c.drop (a+1))=ae (m.drop (a+1))) (p:c[a]<m[a]):ae c<ae m:=by rw[nk c a U,nk m a U,jl j,jl k,d];have e:=fq (h.take a);have l:=dY (i.take a);rw[eD,fW U] at e;have n:aF a*(c[a]+1)<=aF a*m[a]:=i7 U (eb (ev a));have o:aF a*(c[a]+1)=aF a*c[a]+aF a:=(by grind);have f:∀b,aF a*(c[a]+b)=aF a*c[a]+aF a*b:=λb=>(by grind);have g:∀b,aF a*(m[a]+b)=aF a*m[a]+aF a*b:=λb=>(by grind);rw[f,g];omega
def ov {a:cP} (e:aH a) (f:aH c) (g:dq c) (b:a.length<c.length):ae a<ae c:=by have h:=fq e;have i:=dq.low f g (by intro d;rw[d] at b;simp at b);have j:=mj (m:=a.length) (n:=c.length-1) U;omega
def wQ (g:aH c) (h:aH m) (r:dq c) (s:dq m) (v:c.length<=10000000) (w:m.length<=10000000):qz (c,m,())=some (dI (ae c) (ae m),()):=by
 unfold qz;refine ac.eq_iff.1 ?_;simp only[dA,a1];by_cases o:c.length=m.length
 ·rw[aC (U:(c.length:Int)=m.length)];simp only[kp,cond_false];refine ac.aX (P:=λl=>match l with|.inl _=>ae c=ae m|.inr p=>p=(dI (ae c) (ae m),())) ?_ ?_
  ·refine ac.steps c.length (λd q=>q=(((c.length:Nat):Int)-1-d,())/\ae (c.drop (c.length-d))=ae (m.drop (c.length-d))) ⟨?_,?_⟩ ?_ ?_
   ·rw[bf U U];simp
   ·rw[nv U,nv U]
   ·rintro d _ t ⟨rfl,e⟩;obtain⟨a,u⟩:∃a,c.length=a+1+d:=⟨c.length-1-d,U⟩;have ai:((c.length:Nat):Int)-1-(d:Int)=(a:Int):=U;have j:a<c.length:=U;have k:a<m.length:=U;rw[(U:c.length-d=a+1)] at e;simp only[ai,aC (U:(a:Int)>=0),cond_true,da j,da k,aQ,Lh];by_cases i:c[a]=m[a]
    ·simp only[aC i,kp,cond_false];refine ac.aj.2 ⟨?_,?_⟩
     ·rw[bf U U];congr 1;omega
     rw[(U:c.length-(d+1)=a),jl j,jl k,i,e]
    simp only[ay i,lL,cond_true];refine ac.aj.2 ?_;show(dI c[a] m[a],())=_;have n:dI c[a] m[a]=dI (ae c) (ae m):=by
     unfold dI;rcases Int.lt_or_gt_of_ne i with b|b
     ·rw[al b,al (zE g h j k e b)]
     have:=zE h g k j e.symm b;rw[ah U,al b,ah U,al this]
    rw[n]
   rintro _ ⟨rfl,e⟩;have ai:¬(((c.length:Nat):Int)-1-(c.length:Int)>=0):=U;simp only[ay ai,cond_false];refine ac.aj.2 ?_;simpa using e
  rintro(l|l) f
  ·refine ac.aj.2 ?_;have f:ae c=ae m:=f;unfold dI;rw[f];simp
  have f:l=_:=f;rw[f];exact ac.aj.2 rfl
 rw[ay (U:¬(c.length:Int)=m.length)];simp only[lL,cond_true,Ao,aQ];refine ac.aj.2 ?_;congr 1;unfold dI;rcases Nat.lt_or_gt_of_ne o with b|b
 ·rw[al U,al (ov g h s b)]
 have:=ov h g r b;rw[ah U,al U,ah U,al this]
end Go.h1
end
