/-
  Parts of the proof: Fw38, Fw22, Fw23, Fw26, Fw27, Fw28, Fw34, Fw35, Fw37, Fw42, Fw45, Fw24, Fw29, Fw31, Fw32, Fw33, Fw30: the framework (Fw), pure forms (Dn), plain laws (Pl, Th), calls of functions (Ok).
-/
import Derived.Test.YtkhcdgkdpjahpaaGreatDoorB5807f944

set_option linter.all false
noncomputable section
namespace Go.i9
variable{a:Type}{b l W:Nat}{c q:TypeId}{d t:al}{e P:List (Nat×aC)}{f:List (Nat×List aV)}{g D:cY}{h:Oper}{i X:aJ}{j:List aV}{k:List (Nat×ag)}{m w:Operand}{n x:ag}{o:Exit->Act->World->Prop}{r:Array (Nat×Operand)}{s:Program}{u:aJ->Prop}{v:World}{y:Nat->cS}{z:Nat->cY}{A:Nat->Prop}{B:Exit->aJ->Prop}{C:List (Nat×al)}{E Y:Operand->al}{F:aC}{G:Value}{H:cS}{I:Bool}{L:List al}{M:List ResultVar}{N:Op}{O:MapEntry}{Q:c5->Nat->Prop}{R:Array Operand}{S:List aC}{T:aV}{V:Array TypeId}
section
def ra:List al->cV->Option (Nat×List aV)
 |.ref id (c::b)::_,true::_=>some (id,c::b)
 |_::as,_::a=>ra as a
 |_,_=>none
def ot (id:Nat) (a:al):al:=bif a.dJ [id] then .dead else a
def kU (id:Nat):List al->cV->List al
 |.ref _ (_::_)::as,true::_=>.ref id []::as.map (ot id)
 |a::as,_::b=>ot id a::kU id as b
 |as,_=>as.map (ot id)
def iZ {a:Type} (c:Nat->a) (d:Nat) (e:a):Nat->a:=λb=>if b=d then e else c b
theorem ll {d:Nat->a} {c:a}:iZ d b c b=c:=by simp[iZ]
theorem jy {c:Nat->a} {e:a} (d:b≠l):iZ c l e b=c b:=by simp[iZ,d]
section
variable {E:dW} {C:dn} {st:aJ} {A:cQ} {w w':World} {I I':Nat->Prop} {rt:Nat->cS} {fp:Nat->cY}
theorem qM {id:Nat} (a:Nat):ao ((id,F)::del [id] e) a=if id=a then some F else ao e a:=by
 rw[bU];split
 ·rfl
 rename_i b;rw[jY,if_neg (by simpa usingλc=>b c.symm)]
theorem bt.split (e:bt C st A w I rt fp) {id:Nat} {v:aC} (q:ao st.h id=some v) {i:ag} {m:i.den} {r:cS} {j K:cY} (E:aN (ba I C.B) w i r m j) (u:(fp id).Perm (j++K)):bt C ⟨[],(id,⟨i,m⟩)::del [id] st.h⟩ A w I (iZ rt id r) (iZ fp id j):=by
 obtain⟨_,H,J⟩:=e.tree id v q;have p:∀a∈j,a∈fp id:=λa b=>u.mem_iff.2 (by simp[b]);have o:∀c d,ao ((id,(⟨i,m⟩:aC))::del [id] st.h) c=some d->(c=id/\d=⟨i,m⟩)\/(c≠id/\ao st.h c=some d):=λc d f=>by
  rw[qM] at f;split at f
  ·rename_i n;exact .inl ⟨n.symm,(ec f).symm⟩
  rename_i n;exact .inr ⟨λx=>n x.symm,f⟩
 refine{e with tree:=?_,dis:=?_,tmp:=λc=>.dead _}
 ·intro c d f;rcases o c d f with⟨rfl,rfl⟩|⟨g,k⟩
  ·rw[ll,ll];exact⟨E,(hF.1 (u.nodup_iff.1 H)).1,λa b=>J a (p a b)⟩
  rw[jy g,jy g];exact e.tree c d k
 intro F G d L z D l a b;rcases o F d z with⟨rfl,rfl⟩|⟨g,k⟩<;>rcases o G L D with⟨rfl,rfl⟩|⟨s,t⟩
 ·exact absurd rfl l
 ·rw[ll] at b;rw[jy s];exact e.dis _ _ _ _ q t l a (p a b)
 ·rw[jy g] at b;rw[ll];exactλy=>e.dis _ _ _ _ k q l a b (p a y)
 rw[jy g] at b;rw[jy s];exact e.dis _ _ _ _ k t l a b
theorem bE.ot (l:bt C st A w I rt fp) {id:Nat} {q:aC} {i:cS} {j:cY} {a:al} {f:Value} (k:bE (ba I C.B) w st.h rt fp a f):bE (ba I C.B) w ((id,q)::del [id] st.h) (iZ rt id i) (iZ fp id j) (ot id a) f:=by
 unfold i9.ot;cases o:a.dJ [id] with
 |true=>exact .dead _
 |false=>
  refine k.qW (λr g n=>⟨n,bN.refl _ _⟩) (λd m p e=>?_);have c:d≠id:=λb=>FB o d m (by simp[b]);refine⟨?_,jy c,jy c,(l.tree d p e).1,λg _=>bN.refl _ _⟩;rw[qM,if_neg (λb=>c b.symm)];exact e
theorem Rx (q:bt C st A w I rt fp) {id:Nat} (E:ao st.h id=some F) {y:n.den} {u:Loc} {f:cY} (z:aP w F.1 none (rt id) (T::j) n u H):∀{d:List al} {c:cV} {a:cS},g1 (bE (ba I C.B) w st.h rt fp) d a->ra d c=some (id,T::j)->g1 (bE (ba I C.B) w ((id,⟨n,y⟩)::del [id] st.h) (iZ rt id H) (iZ fp id f)) (kU id d c) a:=by
 have G:∀{d:List al} {a:cS},g1 (bE (ba I C.B) w st.h rt fp) d a->g1 (bE (ba I C.B) w ((id,⟨n,y⟩)::del [id] st.h) (iZ rt id H) (iZ fp id f)) (d.map (i9.ot id)) a:=by
  intro d
  induction d with
  |nil=>intro a b;cases a with|nil=>trivial|cons=>exact b.elim
  |cons e m p=>intro a b;cases a with|nil=>exact b.elim|cons J a=>exact⟨b.1.ot q,p b.2⟩
 intro d
 induction d with
 |nil=>intro c a _ b;cases c<;>cases b
 |cons e m p=>
  intro c a b i;cases a with
  |nil=>exact b.elim
  |cons J a=>
  cases c with
  |nil=>cases e<;>first|(cases i;done)|(rename_i l g;cases g<;>cases i)
  |cons k c=>
   by_cases o:∃l s g,e=.ref l (s::g)/\k=true
   ·obtain⟨l,s,g,rfl,rfl⟩:=o;simp only[ra,bI,fd,fK] at i;obtain⟨rfl,rfl,rfl⟩:=i;have x:=b.1;cases x with|ref r D=>
    rw[E] at r;cases r;obtain⟨rfl,rfl,rfl⟩:=D.ih z;refine⟨.ref (t:=⟨_,y⟩) (loc:=none) (by rw[qM,if_pos rfl]) ?_,G b.2⟩;rw[ll];exact aP.here
   have aj:ra (e::m) (k::c)=ra m c:=by cases e<;>first|rfl|(rename_i l g;cases g<;>cases k<;>first|rfl|exact absurd ⟨_,_,_,rfl,rfl⟩ o)
   have v:kU id (e::m) (k::c)=i9.ot id e::kU id m c:=by cases e<;>first|rfl|(rename_i l g;cases g<;>cases k<;>first|rfl|exact absurd ⟨_,_,_,rfl,rfl⟩ o)
   rw[aj] at i;rw[v];exact⟨b.1.ot q,p b.2 i⟩
theorem lE.YC (N:bt C st A w I rt fp) {id:Nat} (v:ao st.h id=some F) {z:n.den} (f4:c4 F.1 F.2 j n z) {co:Loc} (d3:aP w F.1 none (rt id) j n co H):∃r x,aN (ba I C.B) w n H z r/\(fp id).Perm (r++x)/\∀{w':World} {I':Nat->Prop} {s:cY} {P:List (Nat×List aV)} {J:List (Nat×aC)} {W:Nat->cS} {K:Nat->cY} {X:n.den} {u:F.1.den},lE C ⟨[],(id,⟨n,z⟩)::del [id] st.h⟩ w w' I I' (iZ rt id H) (iZ fp id r) s P J W K->id∈s->ao J id=some ⟨n,X⟩->(id,[])∈P->(∀g∈P,g.2=[])->dB F.1 F.2 j n X u->∃em ex,lE C st w w' I I' rt fp s ((id,j)::P) ((id,⟨F.1,u⟩)::J) em ex/\∀k,k≠id->em k=W k:=by
 obtain⟨gt,d9,el⟩:=N.tree id F v;obtain⟨i0,hw,r,x,fn,fs,ft,M,fz,fT,f0⟩:=wW j (loc:=none) gt (λ_ _ b=>by cases b) d9 (λ_ _ b=>by cases b) (N.notM v) f4;obtain⟨_,rfl,rfl⟩:=d3.ih fn;refine⟨r,x,fs,M,λ{w' I' s P J W K X u} l d0 V o am d6=>?_⟩;have ge:∀a∈r,a∈fp id:=λa c=>M.mem_iff.2 (by simp[c]);have d4:=hF.1 (M.nodup_iff.1 d9);have Q:∀a,(∃d∈s,∃e,ao ((id,(⟨n,z⟩:aC))::del [id] st.h) d=some e/\a∈iZ fp id r d)->∃d∈s,∃e,ao st.h d=some e/\a∈fp d/\(d=id->a∈r):=by
  rintro a ⟨d,m,e,f,c⟩;by_cases g:d=id
  ·subst g;rw[ll] at c;exact⟨d,m,F,v,ge a c,λ_=>c⟩
  rw[qM,if_neg (λL=>g L.symm)] at f;rw[jy g] at c;exact⟨d,m,e,f,c,λL=>absurd L g⟩
 have E:∀a∈x,a<w.heap.size/\¬∃d∈s,∃e,ao ((id,(⟨n,z⟩:aC))::del [id] st.h) d=some e/\a∈iZ fp id r d:=λa c=>by
  have O:a∈fp id:=M.mem_iff.2 (by simp[c]);refine⟨(el a O).2.2.1,λb=>?_⟩;obtain⟨d,_,e,f,p,D⟩:=Q a b;by_cases g:d=id
  ·exact d4.2.2 a (D g) a c rfl
  exact N.dis d id e F f v g a p O
 have ad:∀a∈x,w'.heap[a]?=w.heap[a]?:=λa c=>l.heap a (E a c).1 (λd m e f b=>(E a c).2 ⟨d,m,e,f,b⟩);have f1:∀G a,ba I C.B G a->bN w w' a:=λG a T=>.of_heap (l.heap a (N.ib a (lN T)) (λd m e f b=>by
  obtain⟨d,_,e,f,p,_⟩:=Q a ⟨d,m,e,f,b⟩;exact N.notM f a p G T))
 obtain⟨_,a4,go,gs⟩:=l.tree id _ V;obtain⟨y,io,_,d7,_⟩:=l.keep _ o ⟨n,z⟩ (by rw[qM,if_pos rfl]);simp only[ll] at d7;rw[d7] at a4;have cv:∀a,bN w w' a->pJ w w' co n.size a:=λa b=>⟨λq _=>(b.1 q).1,λq=>(b.1 q).2,λq=>by rw[(b.1 q).1],b.2⟩;obtain⟨ic,dl,gf,_,gl,_,a0,_,gi⟩:=fT w' (ba I' C.B) H X (K id) u (λG a c=>by cases G;exact l.i a c;exact c.imp (l.i a) (λb=>b)) (by
   rintro a (⟨G,T⟩|c|⟨a3,f9⟩)
   ·exact cv a (f1 G a T)
   ·exact cv a (.of_heap (ad a c))
   cases f9) a4 (λ_ _=>rfl)
  (λa a3 d2=>by
   have c:a∈x:=by
    rcases fz a a3 d2 with⟨_,b,_⟩|b
    ·cases b
    exact b
   exact(ft a a3 d2).1.ev (.of_heap (ad a c))) d6
 obtain rfl:=gl rfl (.inr rfl);have Z:∀a∈dl,a∈K id\/a∈x:=λa c=>dO.1 (a0.mem_iff.1 c);have av:∀k e,ao J k=some e->∀a∈K k,a∉x:=λk e o a c d5=>by
  rcases((l.tree k e o).2.2.2 a c).2.2 with b|b
  ·exact absurd (E a d5).1 U
  exact(E a d5).2 b
 have ap:∀k y,ao ((id,(⟨F.1,u⟩:aC))::J) k=some y->(k=id/\y=⟨F.1,u⟩)\/(k≠id/\ao J k=some y):=λk y o=>by
  rw[bU] at o;split at o
  ·rename_i g;exact .inl ⟨g.symm,(ec o).symm⟩
  rename_i g;exact .inr ⟨λL=>g L.symm,o⟩
 have an:∀a,(w.heap.size<=a\/∃d∈s,∃e,ao ((id,(⟨n,z⟩:aC))::del [id] st.h) d=some e/\a∈iZ fp id r d)->w.heap.size<=a\/∃d∈s,∃e,ao st.h d=some e/\a∈fp d:=λa b=>b.imp (λb=>b) (λb=>by
  obtain⟨d,m,e,f,p,_⟩:=Q a b;exact⟨d,m,e,f,p⟩)
 refine⟨iZ W id (rt id),iZ K id dl,⟨l.size,l.os,l.tape,l.output,?_,l.evo,l.i,?_,?_,?_,?_,?_⟩,λk o=>jy o⟩
 ·intro a c f5;refine l.heap a c (λd m e f b=>?_);obtain⟨d,m,e,f,p,_⟩:=Q a ⟨d,m,e,f,b⟩;exact f5 d m e f p
 ·intro a c;exact(l.i2 a c).imp (λb=>b) (λb=>⟨b.1,an a b.2⟩)
 ·intro k y o;rcases ap k y o with⟨rfl,rfl⟩|⟨p,D⟩
  ·rw[ll,ll];refine⟨.inl d0,gf,?_,λa c=>?_⟩
   ·rw[a0.nodup_iff,hF];exact⟨go,d4.2.1,λeq f2 a c g=>av k _ V eq f2 (g▸c)⟩
   rcases Z a c with c|c
   ·obtain⟨bl,bs,ce⟩:=gs a c;exact⟨bl,bs,an a ce⟩
   have O:a∈fp k:=M.mem_iff.2 (by simp[c]);refine⟨λm=>?_,gO (E a c).1 l.size,.inr ⟨k,d0,F,v,O⟩⟩;rcases l.i2 a m with b|⟨_,b|b⟩
   ·exact(el a O).1 b
   ·exact absurd (E a c).1 U
   exact(E a c).2 b
  rw[jy p,jy p];obtain⟨hc,bl,bs,ce⟩:=l.tree k y D;refine⟨hc.imp (λb=>b) (λb=>?_),bl,bs,λa c=>?_⟩
  ·have b:ao ((id,(⟨n,z⟩:aC))::del [id] st.h) k=none:=b;rw[qM,if_neg (λg=>p g.symm)] at b;exact b
  obtain⟨v1,e1,ci⟩:=ce a c;exact⟨v1,e1,an a ci⟩
 ·intro d q hi hr m f6 S a c;rcases ap d hi m with⟨rfl,rfl⟩|⟨p,D⟩<;>rcases ap q hr f6 with⟨rfl,rfl⟩|⟨ds,Y⟩
  ·exact absurd rfl S
  ·rw[ll] at c;rw[jy ds];rcases Z a c with c|c
   ·exact l.dis d q _ _ V Y S a c
   exactλb=>av q _ Y a b c
  ·rw[jy p] at c;rw[ll];intro b;rcases Z a b with b|b
   ·exact l.dis d q _ _ D V S a c b
   exact av d _ D a c b
  rw[jy p] at c;rw[jy ds];exact l.dis d q _ _ D Y S a c
 ·intro g t e f;rcases dh.1 t with rfl|t
  ·rw[v] at f;cases f;exact⟨⟨F.1,u⟩,by rw[bU,if_pos rfl],rfl,ll,⟨_,d3.ty⟩,gi⟩
  by_cases aj:g.1=id
  ·rw[aj,v] at f;cases f;refine⟨⟨F.1,u⟩,by rw[bU,if_pos aj.symm],rfl,by rw[aj];exact ll,⟨F.1,by rw[am g t];cases F.1<;>rfl⟩,λd8 _ _ _ o=>?_⟩;rw[am g t,AV] at o;cases o
  obtain⟨v1,e1,ci,v4,hs,B3⟩:=l.keep g t e (by rw[qM,if_neg (λb=>aj b.symm)];exact f);rw[jy aj] at v4 B3;exact⟨v1,by rw[bU,if_neg (λb=>aj b.symm)];exact e1,ci,by rw[jy aj];exact v4,hs,B3⟩
 intro g t e f d8 i3 i1 is hv ii R f8 f7 d1 gc;rcases dh.1 t with rfl|t
 ·rw[v] at f;cases f;refine⟨⟨F.1,u⟩,by rw[bU,if_pos rfl],sc R d6 d1,λcs f3=>?_⟩;obtain⟨ar,a4⟩:=f0 d8 _ _ _ _ _ R (by exact f8) d1 f7 gc cs f3;rw[ll];exact⟨a0.mem_iff.2 (k2 _ ar),.of_heap (ad cs ar)⟩
 rw[am g t,sb] at R;cases R
theorem dm.sub {s:Oper} {r:List al} {d W:Array _} (d2:s.op=.call {callee:=.value m,args:=d,argTypes:=W}) (ex:aO st.g m=.dg l r) (ci:s.dst=some b) (co:C.ok b) (bs:∀(V:cQ) (w:World),(callFunc l V).run E.P w=.ok (.enter l V) w) {a:List fJ} (bl:pI E l a S) (d8:nq 0 a=none) (ad:∀j,C.I0 j\/C.B j->j<C.w0.heap.size/\¬C.F0 j) (am:jC E C.I0 C.w0) {id:Nat} (q:ao st.h id=some F) {p:List aV} {v:n.den} (O:c4 F.1 F.2 (T::p) n v) {H:cV} (d9:ra (d.toList.map (aO st.g)++r) H=some (id,T::p)) (a3:L=kU id (d.toList.map (aO st.g)++r) H) (a0:mM ((id,⟨n,v⟩)::del [id] st.h) (eB L a) L a) (A:lH b ⟨[],(id,⟨n,v⟩)::del [id] st.h⟩ L a S=true) (ap:id∈eB L a) (an:id∈kP L a) {y':n.den} {z:F.1.den} (ds:ao (il L a++ho b (g5 S) 0 S) id=some ⟨n,y'⟩) (d7:dB F.1 F.2 (T::p) n y' z) (o:u ⟨(b,sV b S)::kill (eB L a) ((id,T::p)::uy (kP L a)) st.g,((id,⟨F.1,z⟩)::(il L a++ho b (g5 S) 0 S))++del (eB L a) st.h⟩):dm E C s st u:=by
 rintro c w ⟨I,rt,fp,e⟩ next f0 d1
 obtain⟨i,eq,Z⟩:∃i:cQ,c.eval m=.func (.func l) #[] i/\g1 (bE (ba I C.B) w st.h rt fp) r i.toList:=by
  have G:=e.aO m;rw[ex] at G;generalize f4:c.eval m=f9 at G;cases G with|dg dl cv=>
  exact⟨_,rfl,yx (by simpa using dl) (λU c j D x=>cv U c j D (by simpa using x))⟩
 have a4:g1 (bE (ba I C.B) w st.h rt fp) (d.toList.map (aO st.g)++r) (d.toList.map c.eval++i.toList):=Cr (Cs (λm=>e.aO m) _) Z;obtain⟨fs,ft,f5⟩:=e.tree id F q;obtain⟨fT,f1,_,_,J,_⟩:=AF (T::p) (loc:=none) fs (λ_ _ o=>by cases o) ft (λ_ _ o=>by cases o) (e.notM q) O;obtain⟨Y,f6,ar,fn,d3⟩:=lE.YC e q O J;have M:=e.split q ar fn;have N:=Rx (y:=v) (f:=Y) e q J a4 d9;rw[<-a3] at N;have ce:=M.call N bl a0 A (λ_ _=>by rw[d8];trivial) (M.glob ad am);have d6:(execOp c.eval s).run E.P w=.ok (.enter l (d.toList.map c.eval++i.toList).toArray) w:=(by have aj:d.map c.eval=(d.toList.map c.eval).toArray:=(by rw[<-Array.toList_map]);have X:(d.toList.map c.eval++i.toList).toArray=(d.toList.map c.eval).toArray++i:=ab;rw[X];simp only[execOp,d2,resolve,aj,Sem.run_bind,eq,Deferred.ofValue,Sem.run_pure,Result.andThen_ok,invoke,Array.empty_append,Array.append_empty];exact bs _ _);unfold Oper.wp;rw[d6];show Calls E.P l _ w _;refine ce.mono ?_;rintro k w' ⟨I',f7,f2,fz,rfl,el,d4⟩;show next (c.put s.dst (oe fz)) w'
 rw[ci];obtain⟨f8,f3,em,d5⟩:=d3 el ap ds (bR.2 ⟨id,an,rfl⟩) (λk cs=>by obtain⟨U,_,rfl⟩:=bR.1 cs;rfl) d7;simp only[lH,bd,eI] at A;have d0:=hM.ok A.1.2;refine d1 _ _ _ o rfl ⟨I',_,_,(e.eH em).put co (av:=sV b S) (d4 _ _ _ (λt R=>?_))⟩;have D:=Lo d0 t R;have x:=A.2 t R;have Q:t.1≠id:=λk=>(by rw[k,qM,if_pos rfl] at x;cases x);have K:ao ((id,(⟨F.1,z⟩:aC))::(il L a++ho b (g5 S) 0 S)) t.1=some t.2:=(by rw[bU,if_neg (λk=>Q k.symm)];exact D);refine⟨by rw[iF,K];rfl,?_⟩;simp only[dA,K];exact d5 _ Q
end
end
section
def h1:Nat->List fJ->List (Nat×al)
 |_,[]=>[]
 |k,.v b::a=>(k,.val b.1 b.2)::h1 (k+1) a
 |k,.m _ _::a=>(k,.ref k [])::h1 (k+1) a
 |k,.o _::a=>(k,.ref k [])::h1 (k+1) a
 |k,.n::a=>(k,.bP (.slice none 0 0))::h1 (k+1) a
 |k,.w _ _ e d _::a=>(k,.view k [] e d)::h1 (k+1) a
 |k,.s _ _::a=>h1 (k+1) a
 |k,.c f g::a=>(k,.dg f (g.map λb=>.val b.1 b.2))::h1 (k+1) a
def iy:Nat->List fJ->List (Nat×aC)
 |_,[]=>[]
 |k,.v _::a=>iy (k+1) a
 |k,.m b _::a=>(k,b)::iy (k+1) a
 |k,.o b::a=>(k,b)::iy (k+1) a
 |k,.w e d _ _ _::a=>(k,⟨.osl e,d⟩)::iy (k+1) a
 |k,.c _ _::a=>iy (k+1) a
 |k,.n::a=>iy (k+1) a
 |k,.s _ _::a=>iy (k+1) a
def fV:Nat->List fJ->cY
 |_,[]=>[]
 |k,.m _ _::a=>k::fV (k+1) a
 |k,.w _ _ _ _ _::a=>k::fV (k+1) a
 |k,_::a=>fV (k+1) a
def rB (a:dn):Option cy->Prop
 |none=>True
 |some (c,g,d)=>c∈a.pin/\(∀h∈d,h∈a.pin)/\∃b e f,a.vs c=.pointer (some ⟨b,e,none⟩)/\b<a.w0.heap.size/\¬a.F0 b/\a.w0.cell? ⟨b,e,none⟩=some (.func (.func g) #[] f)/\f.toList=d.map a.vs
def mF:Option cy->cY
 |none=>[]
 |some (a,_,b)=>a::b
def pX (j:Program) (e:aJ) (a:aC):ResultVar->cY->Prop
 |.tmp m,c=>match gt e.g m with
  |.val i n=>(⟨i,n⟩:aC)=a/\c=[]
  |.bP f=>hf a.1 f.cells.toList=some a.2/\bH a.1 f.cells.toList=f/\c=[]
  |.ref id d=>c=[id]/\∃b,ao e.h id=some b/\c4 b.1 b.2 d a.1 a.2
  |_=>False
 |.cell l k,c=>dF j a.1 k/\match gt e.g l with
  |.ref id d=>c=[id]/\∃b i,ao e.h id=some b/\dI b.1 d=some (.optr i)/\c4 b.1 b.2 (d++[.deref]) a.1 a.2
  |_=>False
def rz (b:Program) (d:aJ):List ResultVar->List aC->cY->Prop
 |[],[],a=>a=[]
 |r::f,e::g,a=>e.1.eu=true/\∃i1 c,a=i1++c/\pX b d e r i1/\rz b d f g c
 |_,_,_=>False
def nI (a:aJ):Nat->List fJ->Prop
 |_,[]=>True
 |k,.m c l::b=>(gt a.g k=.ref k []/\ao a.h k=some ⟨c.1,l⟩/\c.1.eu=true/\pF c.1=true)/\nI a (k+1) b
 |k,.w i j e d f::b=>(gt a.g k=.view k [] e d/\ao a.h k=some ⟨.osl i,f⟩/\(i.eu=true/\e<d)/\f.length=j.length)/\nI a (k+1) b
 |k,_::b=>nI a (k+1) b
def FM (e:Program) (a:List fJ) (g:List ResultVar) (f:List aC) (b:Exit) (d:aJ):Prop:=
 (b=.normal\/b=.ret)/\∃c,rz e d g f c/\hM (fV 0 a++c)=true/\nI d 0 a
section
variable {E:dW}
theorem Sd {i:Nat->Prop} (f:g1 (vk i A v) S H):bE (ba i A) v e y z (.dg b (S.map λc=>.val c.1 c.2)) (.func (.func b) #[] H.toArray):=by
 have k:=Gl f;refine .dg (by simpa using k.symm) (λd o h a g=>?_);have j:∀{S:List aC} {H:cS} {d:Nat} {c:aC} {h:Value},g1 (vk i A v) S H->S[d]?=some c->H[d]?=some h->vk i A v c h:=by
  intro S
  induction S with
  |nil=>intro H d c h _ a;simp at a
  |cons r S n=>
   intro H d c h f a g;cases H with
   |nil=>exact f.elim
   |cons q H=>
    cases d with
    |zero=>simp only[iL,bI] at a g;subst a g;exact f.1
    |succ d=>exact n f.2 (by simpa using a) (by simpa using g)
 rw[eS] at a;obtain⟨c,m,rfl⟩:=dZ.1 a;obtain⟨p,rfl,l⟩:=j f m (by simpa using g);exact .val l
theorem GD {r q:Nat->Prop} {w:World}:∀{k:Nat} {d:List fJ} {G:cS} {z:cN},kI (ve r q w) d G z->∃(h:Nat->cS) (f:Nat->cY),(∀id b,ao (iy k d) id=some b->k<=id/\(∃x,z[id-k]?=some x/\f id=x)/\aN (ba r q) w b.1 (h id) b.2 (f id))/\(∀a,gt (h1 k d) (k+a)=.dead\/∃v,G[a]?=some v/\bE (ba r q) w (iy k d) h f (gt (h1 k d) (k+a)) v)/\(∀a,a<k->gt (h1 k d) a=.dead)
 |k,[],G,z,p=>⟨λ_=>[],λ_=>[],(λid b p=>by cases p),λa=>.inl rfl,λa _=>rfl⟩
 |k,l::d,[],z,p=>p.elim
 |k,l::d,v::G,[],p=>p.elim
 |k,l::d,v::G,x::z,p=>by
  obtain⟨C,ad⟩:=p;obtain⟨h,f,i1,M,D⟩:=GD (k:=k+1) ad;have L:∀id b,ao (iy (k+1) d) id=some b->k<=id/\(∃y,(x::z)[id-k]?=some y/\f id=y)/\aN (ba r q) w b.1 (h id) b.2 (f id):=λid b u=>(by obtain⟨ar,⟨y,e,R⟩,av⟩:=i1 id b u;exact⟨U,⟨y,by rw[(U:id-k=(id-(k+1))+1),oG];exact e,R⟩,av⟩);have Q:∀(b:aC) (t:cS) (N:al),(∀(B:List (Nat×aC)) (F:Nat->cS) (J:Nat->cY),ao B k=some b->F k=t->bE (ba r q) w B F J N v)->aN (ba r q) w b.1 t b.2 x->iy k (l::d)=(k,b)::iy (k+1) d->h1 k (l::d)=(k,N)::h1 (k+1) d->_:=λb t N g j aj V=>by
   refine(⟨λK=>if K=k then t else h K,λK=>if K=k then x else f K,?_,?_,?_⟩:∃(h:Nat->cS) (f:Nat->cY),(∀id b,ao (iy k (l::d)) id=some b->k<=id/\(∃y,(x::z)[id-k]?=some y/\f id=y)/\aN (ba r q) w b.1 (h id) b.2 (f id))/\(∀a,gt (h1 k (l::d)) (k+a)=.dead\/∃i,(v::G)[a]?=some i/\bE (ba r q) w (iy k (l::d)) h f (gt (h1 k (l::d)) (k+a)) i)/\(∀a,a<k->gt (h1 k (l::d)) a=.dead))
   ·intro id S u;rw[aj,bU] at u;split at u
    ·rename_i O;subst O;obtain rfl:=ec u;refine⟨a8 _,⟨x,ab,ab⟩,by simp only[if_true];exact j⟩
    rename_i O;obtain⟨ar,e,R⟩:=L id S u;have I:¬id=k:=λp=>O p.symm;exact⟨ar,by simp only[if_neg I];exact e,by simp only[if_neg I];exact R⟩
   ·intro a;rw[V,hk];cases a with
    |zero=>
     right;refine⟨v,rfl,?_⟩;rw[if_pos U];exact g _ _ _ (by rw[aj,bU,if_pos rfl]) (by simp only[if_true])
    |succ a=>
     rw[if_neg U,(U:k+(a+1)=k+1+a)];refine(M a).imp id ?_;rintro⟨i,ar,e⟩;refine⟨i,by simpa using ar,?_⟩;refine e.qW (λm H am=>⟨am,bN.refl w H⟩) (λid _ S u=>?_);obtain⟨bs,_,a0⟩:=i1 id S u;have I:¬id=k:=U;have Z:¬k=id:=U;exact⟨by rw[aj,bU,if_neg Z];exact u,by simp only[if_neg I],by simp only[if_neg I],a0,λH _=>bN.refl w H⟩
   intro a A;rw[V,hk,if_neg U];exact D a U
  cases l with
  |v b=>
   obtain⟨rfl,t,g,j⟩:=C;refine⟨h,f,L,λa=>?_,λa A=>?_⟩
   ·show gt ((k,_)::_) _=_\/_;rw[hk];cases a with
    |zero=>
     right;refine⟨v,rfl,?_⟩;show bE _ _ _ _ _ (gt ((k,_)::_) _) _;rw[hk,if_pos U,g];exact .val j
    |succ a=>
     rw[if_neg U,(U:k+(a+1)=k+1+a)];refine(M a).imp id ?_;rintro⟨i,ar,e⟩;refine⟨i,by simpa using ar,?_⟩;show bE _ _ _ _ _ (gt ((k,_)::_) _) _;rw[hk,if_neg U];exact e
   show gt ((k,_)::_) _=_;rw[hk,if_neg U];exact D a U
  |n=>
   obtain⟨rfl,g⟩:=C;refine⟨h,f,L,λa=>?_,λa A=>?_⟩
   ·show gt ((k,_)::_) _=_\/_;rw[hk];cases a with
    |zero=>
     right;refine⟨v,rfl,?_⟩;show bE _ _ _ _ _ (gt ((k,_)::_) _) _;rw[hk,if_pos U,g];exact .bP _
    |succ a=>
     rw[if_neg U,(U:k+(a+1)=k+1+a)];refine(M a).imp id ?_;rintro⟨i,ar,e⟩;refine⟨i,by simpa using ar,?_⟩;show bE _ _ _ _ _ (gt ((k,_)::_) _) _;rw[hk,if_neg U];exact e
   show gt ((k,_)::_) _=_;rw[hk,if_neg U];exact D a U
  |s a3 a4=>
   refine⟨h,f,L,λa=>?_,λa A=>D a U⟩;cases a with
   |zero=>exact .inl (D k U)
   |succ a=>
    have A:=M a;rw[(U:k+1+a=k+(a+1))] at A;refine A.imp id ?_;rintro⟨i,ar,e⟩;exact⟨i,by simpa using ar,e⟩
  |c n ce=>
   obtain⟨rfl,ci,g,j⟩:=C;refine⟨h,f,L,λa=>?_,λa A=>?_⟩
   ·show gt ((k,_)::_) _=_\/_;rw[hk];cases a with
    |zero=>
     right;refine⟨v,rfl,?_⟩;show bE _ _ _ _ _ (gt ((k,_)::_) _) _;rw[hk,if_pos U,g];exact Sd j
    |succ a=>
     rw[if_neg U,(U:k+(a+1)=k+1+a)];refine(M a).imp id ?_;rintro⟨i,ar,e⟩;refine⟨i,by simpa using ar,?_⟩;show bE _ _ _ _ _ (gt ((k,_)::_) _) _;rw[hk,if_neg U];exact e
   show gt ((k,_)::_) _=_;rw[hk,if_neg U];exact D a U
  |m b co=>obtain⟨t,g,j⟩:=C;exact Q b t (.ref k []) (λB F J ar e=>by subst g;exact .ref (loc:=none) ar (by rw[e];exact aP.here)) j rfl rfl
  |o b=>obtain⟨t,g,j⟩:=C;exact Q b t (.ref k []) (λB F J ar e=>by subst g;exact .ref (loc:=none) ar (by rw[e];exact aP.here)) j rfl rfl
  |w Y X E P cs=>
   obtain⟨H,o,T,g,⟨bl,an,ap⟩,j⟩:=C;refine Q ⟨.osl Y,X⟩ _ (.view k [] E P) (λB F J ar e=>?_) j rfl rfl;have W:bE (ba r q) w B F J (.view k [] E P) (.slice (some ⟨H,if T=E then o else o+E*Y.size,none⟩) (P-E) (T-E)):=.view (loc:=none) (len:=X.length) ar (by rw[e];exact aP.here) U an ap;rw[if_neg U] at W;rw[g];exact W
theorem VP {f:cN} (h:f.flatten.Nodup):(∀(a:Nat) b,f[a]?=some b->b.Nodup)/\∀(a c:Nat) b g,f[a]?=some b->f[c]?=some g->a≠c->∀e∈b,e∉g:=by
 induction f with
 |nil=>exact⟨λa b h=>by simp at h,λa c b g h=>by simp at h⟩
 |cons r f q=>
  simp only[iu,hF] at h;obtain⟨m,n,l⟩:=h;obtain⟨i1,p⟩:=q n;refine⟨λa b d=>?_,λa c b g d i o e j k=>?_⟩
  ·cases a with
   |zero=>simp only[iL,bI] at d;subst d;exact m
   |succ a=>exact i1 a b (by simpa using d)
  cases a with
  |zero=>
   cases c with
   |zero=>exact o rfl
   |succ c=>
    simp only[iL,bI] at d;subst d;exact l e j e (iv.2 ⟨g,kD (by simpa using i),k⟩) rfl
  |succ a=>
   cases c with
   |zero=>
    simp only[iL,bI] at i;subst i;exact l e k e (iv.2 ⟨b,kD (by simpa using d),j⟩) rfl
   |succ c=>exact p a c b g (by simpa using d) (by simpa using i) U e j k
def xL (b:cQ):ResultVar->Sem Value
 |.tmp a=>Pure.pure (b.getD a undef)
 |.cell c a=>do loadVar a (<-asAddr (b.getD c undef))
theorem ZK {e:Func} (g:e.results=M.toArray) (c:cQ) (a:World) (h:(M.mapM (xL c)).run s a=.ok H a):(results e c).run s a=.ok (oe H) a:=by
 unfold results;simp only[Sem.run_bind,g];rw[Array.mapM_eq_mapM_toList,Sem.run_map];have i:∀b:ResultVar->Sem Value,(∀d,b d=xL c d)->(M.mapM b).run s a=.ok H a:=λb f=>(by rw[show b=xL c from funext f];exact h);rw[i _ (λd=>by cases d<;>rfl)];simp only[Result.andThen_ok,Sem.run_pure];congr 1
 match H with
 |[]=>rfl
 |[r]=>rfl
 |r::k::j=>simp[oe]
theorem pX.rep {K:dn} {e:cQ} {N:Nat->cS} (t:bt K i e v A N z) (I:F.1.eu=true) {d:ResultVar} (a:pX s i F d g):∃r L,(xL e d).run s v=.ok r v/\yo A v F r L/\(∃am,(g.map z).flatten.Perm (L++am))/\∀id∈g,∃F,ao i.h id=some F:=by
 have M:∀(id:Nat) (f:aC) (n:List aV),ao i.h id=some f->c4 f.1 f.2 n F.1 F.2->∃q k j o,aP v f.1 none (N id) n F.1 q k/\aN (ba A K.B) v F.1 k F.2 j/\nH v q k F.1.size/\(z id).Perm (j++o):=(by intro id f n c u;obtain⟨ar,J,av⟩:=t.tree id _ c;obtain⟨q,k,j,o,D,p,G,E,_⟩:=AF n (τ':=F.1) (y:=F.2) ar (loc:=none) (λ_ _ a=>by cases a) J (λ_ _ a=>by cases a) (t.notM c) u;exact⟨q,k,j,o,D,p,G,E⟩);cases d with
 |tmp d=>
  have b:=t.tmp d;simp only[pX] at a;split at a
  ·rename_i ap a3 l;rw[l] at b;obtain⟨rfl,rfl⟩:=a;generalize m:e.getD d undef=r at b;cases b with|val an=>
   exact⟨_,[],by show(Pure.pure (e.getD d undef):Sem Value).run s v=_;rw[m];rfl,⟨_,rfl,an.eu I⟩,⟨[],ab⟩,ab⟩
  ·rename_i r l;rw[l] at b;obtain⟨ar,J,rfl⟩:=a;generalize m:e.getD d undef=a0 at b;cases b;exact⟨_,[],by show(Pure.pure (e.getD d undef):Sem Value).run s v=_;rw[m];rfl,⟨_,J.symm,nX ar⟩,⟨[],ab⟩,ab⟩
  ·rename_i id n l;rw[l] at b;obtain⟨rfl,f,c,u⟩:=a;generalize m:e.getD d undef=r at b;cases b with|ref C x=>
   rw[c] at C;cases C;obtain⟨q,k,j,o,D,p,G,E⟩:=M id f n c u;obtain⟨rfl,rfl,rfl⟩:=x.ih D;refine⟨_,j,by show(Pure.pure (e.getD d undef):Sem Value).run s v=_;rw[m];rfl,⟨_,rfl,p.eu I⟩,⟨o,by simpa using E⟩,λZ w=>?_⟩;rw[dP] at w;subst w;exact⟨_,c⟩
  exact a.elim
 |cell H O=>
  have b:=t.tmp H;simp only[pX] at a;obtain⟨V,a⟩:=a;split at a
  ·rename_i id n l;rw[l] at b;obtain⟨rfl,f,ap,c,Y,u⟩:=a;generalize m:e.getD H undef=r at b;cases b with|ref C x=>
   rw[c] at C;cases C;have:=x.ty;rw[Y] at this;cases this;obtain⟨P,ad,S,rfl,Q,R⟩:=nh (t.tree id _ c).1 x;have X:=x.append (aP.C5 Q R);obtain⟨q,k,j,o,D,p,G,E⟩:=M id f _ c u;obtain⟨aj,T,U⟩:=X.ih D;subst T;subst U;subst aj;have W:=(G P ad rfl).1;refine⟨bH F.1 S,j,?_,⟨_,rfl,p.eu I⟩,⟨o,by simpa using E⟩,λZ w=>?_⟩
   ·show(do loadVar O (<-asAddr (e.getD H undef)):Sem Value).run s v=_;rw[m];simp only[bH,List.headD,asAddr,Sem.run_bind,Sem.run_pure,Result.andThen_ok];exact LJ V W p.len
   rw[dP] at w;subst w;exact⟨_,c⟩
  exact a.elim
theorem rz.rep {k:Program} {t:dn} {g:aJ} {s:cQ} {f w0:World} {j:Nat->Prop} {H:Nat->cS} {m:Nat->cY} (n:bt t g s f j H m):∀{e:List ResultVar} {p:List aC} {a:cY},rz k g e p a->∃vs d,(e.mapM (xL s)).run k f=.ok vs f/\kI (yo j f) p vs d/\(∃F,(a.map m).flatten.Perm (d.flatten++F))/\∀id∈a,∃i,ao g.h id=some i
 |[],[],a,b=>by obtain rfl:a=[]:=b;exact⟨[],[],rfl,trivial,⟨[],.refl _⟩,ab⟩
 |[],i::I,a,b=>b.elim
 |r::e,[],a,b=>b.elim
 |r::e,i::I,a,b=>by
  obtain⟨E,i1,K,rfl,C,D⟩:=b;obtain⟨J,l,u,v,⟨G,w⟩,x⟩:=C.rep n E;obtain⟨vs,d,y,z,⟨q,A⟩,B⟩:=rz.rep (w0:=w0) n D;refine⟨J::vs,l::d,?_,⟨v,z⟩,⟨G++q,?_⟩,λo c=>?_⟩
  ·simp only[List.mapM_cons,Sem.run_bind,u,Sem.run_pure,Result.andThen_ok,y]
  ·simp only[gb,oF,iu];refine(w.append A).trans ?_;rw[kA,kA];refine List.Perm.append_left l ?_;rw[<-kA,<-kA];exact List.Perm.append_right q List.perm_append_comm
  rcases dO.1 c with c|c
  ·exact x o c
  exact B o c
theorem GF:∀{k:Nat} {args:List fJ},∀b∈fV k args,k<=b
 |k,[],b,a=>by cases a
 |k,f::args,b,a=>by
  have d:=GF (k:=k+1) (args:=args);cases f with
  |m e q=>
   rcases dh.1 a with rfl|a
   ·exact a8 _
   have:=d b a;omega
  |w t p j h r=>
   rcases dh.1 a with rfl|a
   ·exact a8 _
   have:=d b a;omega
  |v e=>have:=d b a;omega
  |o e=>have:=d b a;omega
  |c n l=>have:=d b a;omega
  |n=>have:=d b a;omega
  |s g i=>have:=d b a;omega
theorem nI.rep {S:dn} {C:aJ} {F:cQ} {w:World} {G:Nat->Prop} {M:Nat->cS} {u:Nat->cY} (x:bt S C F w G M u) {B:Nat->Prop}:∀{k:Nat} {g:List fJ} {vs:cS},nI C k g->vs.length=g.length->(∀e,e∈fV k g->∀v,vs[e-k]?=some v->F.getD e undef=v)->∃d,kI (vf G B w) g vs d/\d.flatten=((fV k g).map u).flatten/\∀id∈fV k g,k<=id/\∃t,ao C.h id=some t
 |k,[],vs,i,y,z=>by cases vs with
  |nil=>exact⟨[],trivial,rfl,by simp[fV]⟩
  |cons=>cases y
 |k,H::g,[],i,y,z=>by cases y
 |k,H::g,v::vs,i,y,z=>by
  have r:nI C (k+1) g->(∀e,e∈fV (k+1) g->e∈fV k (H::g))->∃d,kI (vf G B w) g vs d/\d.flatten=((fV (k+1) g).map u).flatten/\∀id∈fV (k+1) g,k+1<=id/\∃t,ao C.h id=some t:=λi Y=>by
   have W:=GF (k:=k+1) (args:=g);exact nI.rep x i (by simpa using y) (λe f ap Z=>z e (Y e f) ap (by
    have:=W e f;rw[(U:e-k=(e-(k+1))+1),oG];exact Z))
  cases H with
  |v t=>
   obtain⟨d,j,l,b⟩:=r i (λe f=>f);exact⟨[]::d,⟨rfl,j⟩,by simpa[fV] using l,λid a=>⟨by have:=(b id a).1;omega,(b id a).2⟩⟩
  |o t=>
   obtain⟨d,j,l,b⟩:=r i (λe f=>f);exact⟨[]::d,⟨rfl,j⟩,by simpa[fV] using l,λid a=>⟨by have:=(b id a).1;omega,(b id a).2⟩⟩
  |n=>
   obtain⟨d,j,l,b⟩:=r i (λe f=>f);exact⟨[]::d,⟨rfl,j⟩,by simpa[fV] using l,λid a=>⟨by have:=(b id a).1;omega,(b id a).2⟩⟩
  |s bs ci=>
   obtain⟨d,j,l,b⟩:=r i (λe f=>f);exact⟨[]::d,⟨rfl,j⟩,by simpa[fV] using l,λid a=>⟨by have:=(b id a).1;omega,(b id a).2⟩⟩
  |c n d1=>
   obtain⟨d,j,l,b⟩:=r i (λe f=>f);exact⟨[]::d,⟨rfl,j⟩,by simpa[fV] using l,λid a=>⟨by have:=(b id a).1;omega,(b id a).2⟩⟩
  |m t d2=>
   obtain⟨⟨K,q,L,ad⟩,i⟩:=i;obtain⟨d,j,l,b⟩:=r i (λe f=>e2 _ f);have p:=x.tmp k;rw[K] at p;have J:F.getD k undef=v:=z k (by simp[fV]) v ab;rw[J] at p;obtain⟨E,_⟩:=x.tree k _ q;refine⟨u k::d,⟨?_,j⟩,by simp only[fV,ep,iu,l],λid a=>?_⟩
   ·cases p with|ref A I=>
    rw[q] at A;cases A;obtain⟨rfl,rfl,rfl⟩:=aP.eR.1 I;exact⟨M k,rfl,E.eu L⟩
   rcases dh.1 a with rfl|a
   ·exact⟨a8 _,_,q⟩
   exact⟨by have:=(b id a).1;omega,(b id a).2⟩
  |w R av co ce a0=>
   obtain⟨⟨K,q,⟨L,ad⟩,am⟩,i⟩:=i;obtain⟨d,j,l,b⟩:=r i (λe f=>e2 _ f);have p:=x.tmp k;rw[K] at p;have J:F.getD k undef=v:=z k (by simp[fV]) v ab;rw[J] at p;obtain⟨E,_⟩:=x.tree k _ q;refine⟨u k::d,⟨?_,j⟩,by simp only[fV,ep,iu,l],λid a=>?_⟩
   ·cases p with
    |kv=>omega
    |view A I ar cv dl=>
    rename_i d0 d3 cs N P an O;rw[q] at A;cases A;obtain⟨aj,bl,T⟩:=aP.eR.1 I;simp only[ag.osl.injEq] at aj;subst aj;have D:M k=[.slice (some ⟨N,P,none⟩) an O]:=T;have X:=E;obtain⟨a3,a4,Q,ds⟩:=X;rw[Q] at D;simp only[fK,Value.slice.injEq,and_true] at D;refine⟨N,P,O,by rw[if_neg U],U,?_⟩;have:=aN.eu (τ:=.osl R) (B':=B) L E;rw[Q,D.1,D.2.2] at this;have V:List.length (α:=R.den) a0=av.length:=am;rw[<-V];exact this
   rcases dh.1 a with rfl|a
   ·exact⟨a8 _,_,q⟩
   exact⟨by have:=(b id a).1;omega,(b id a).2⟩
theorem pI.V0 {o:FuncId} {m:Func} {c:Code} {e:List fJ} (d9:E.P.funcs[o]?=some m) (d:m.body=some c) (fp:m.results=M.toArray) (gf:e.length<=m.ntmps) (b:∀f:dn,f.n=m.ntmps->f.pin=fV 0 e++mF (nq 0 e)->(∀a,f.I0 a\/f.B a->a<f.w0.heap.size/\¬f.F0 a)->rB f (nq 0 e)->jC E f.I0 f.w0->J E f c ⟨h1 0 e,iy 0 e⟩ (FM E.P e M S)):pI E o e S:=by
 intro x y G l K av am ex N a3 el;obtain⟨ft,ge⟩:=Ct am;obtain⟨cv,Y,I,d0,f9⟩:=GD (k:=0) am
 let f:dn:={I0:=y,B:=G,F0:=λa=>a∈K.flatten,w0:=x,n:=m.ntmps,pin:=fV 0 e++mF (nq 0 e),vs:=λi=>l.getD i undef}
 have bl:∀i,(l.toArray++Array.replicate (m.ntmps-l.toArray.size) undef).getD i undef=l.getD i undef:=by
  intro i;rw[x9,iK];rcases bp i l.length with Q|Q
  ·rw[Array.getElem?_append,if_pos (by simpa using Q)];simp
  rw[Array.getElem?_append,if_neg (by simp;omega),fc Q,Array.getElem?_replicate];split<;>rfl
 obtain⟨fz,fT⟩:=VP ex;have d4:bt f ⟨h1 0 e,iy 0 e⟩ (l.toArray++Array.replicate (m.ntmps-l.toArray.size) undef) x y cv Y:=by
  refine{n:=?_,i0:=λ_ b=>b,i1:=λ_ b=>.inl b,ib:=av,tree:=?_,dis:=?_,tmp:=?_,frame:=λ_ _ _=>rfl,evo:=λ_ _=>.refl _ _,size:=a8 _,os:=rfl,tape:=rfl,output:=rfl,pin:=λi _=>bl i}
  ·simp only[Array.size_append,pT,Array.size_replicate];show _=m.ntmps;omega
  ·intro id j v;obtain⟨_,⟨o,ar,t⟩,T⟩:=I id j v;rw[Nat.sub_zero] at ar;refine⟨T,by rw[t];exact fz id o ar,λa d=>?_⟩;rw[t] at d;have q:a∈K.flatten:=iv.2 ⟨o,kD ar,d⟩;obtain⟨C,U,f3⟩:=N a q;exact⟨C,U,f3,.inr q⟩
  ·intro ce s j f7 em u eq a d an;obtain⟨_,⟨o,ar,t⟩,_⟩:=I ce j em;obtain⟨_,⟨d1,C,U⟩,_⟩:=I s f7 u;rw[Nat.sub_zero] at ar C;rw[t] at d;rw[U] at an;exact fT ce s o d1 ar C eq a d an
  intro i;show bE _ _ _ _ _ (gt (h1 0 e) i) _;rw[bl];rcases d0 i with b|⟨w,L,z⟩
  ·rw[hX] at b;rw[b];exact .dead _
  rw[hX] at z;rw[iK,L];exact z
 have fs:rB f (nq 0 e):=by
  cases p:nq 0 e with
  |none=>trivial
  |some f1=>
   obtain⟨i,o,co⟩:=f1;rw[p] at a3;obtain⟨_,_,a,f0,f8,V,D,W,f5,f6⟩:=a3;have a0:f.pin=fV 0 e++mF (some (i,o,co)):=(by rw[<-p]);refine⟨by rw[a0];simp[mF],λs u=>by rw[a0];simp[mF,u],a,f0,f8,V,D,W,f5,f6⟩
 refine calls_of_wp d9 d (wp_mono (b f rfl rfl (λa d=>⟨av a d,λq=>d.elim (N a q).1 (N a q).2.1⟩) fs el _ x ⟨y,cv,Y,d4⟩ rfl) ?_);rintro gc X F ⟨ds,⟨d8,ci,fn,R,q⟩,⟨H,gl,Z,g⟩,ap⟩;obtain⟨go,p,f4,V,⟨gi,D⟩,W⟩:=rz.rep (w0:=x) g fn;obtain⟨r,d2,ad,d3⟩:=nI.rep g (B:=G) (vs:=l) q ft (λs u w bs=>by
  rw[Nat.sub_zero] at bs;rw[g.pin s (mO _ u)];show l.getD s undef=w;rw[iK,bs];rfl)
 have R:=hM.ok R;have a4:∀id∈fV 0 e++ci,∃j,ao ds.h id=some j:=λid O=>by
  rcases dO.1 O with b|b
  ·exact(d3 id b).2
  exact W id b
 have A:=En g a4 R;rw[gb,oF,<-ad] at A;have A:(r.flatten++p.flatten).Nodup:=(by have:=(List.Perm.append_left r.flatten D).nodup_iff.1 A;rw[<-kA] at this;exact(hF.1 this).1);have d5:∀a∈r.flatten++p.flatten,∃id j,ao ds.h id=some j/\a∈Z id:=λa d=>by
  have d:a∈((fV 0 e++ci).map Z).flatten:=by
   rw[gb,oF,<-ad];rcases dO.1 d with b|b
   ·exact mO _ b
   exact k2 _ (D.mem_iff.2 (mO _ b))
  obtain⟨co,L,z⟩:=iv.1 d;obtain⟨id,O,rfl⟩:=bR.1 L;obtain⟨j,v⟩:=a4 id O;exact⟨id,j,v,z⟩
 have cs:∃w,(results m X.tmps).run E.P F=.ok w F/\∃H r p dl,Ending.returned w=.returned (oe dl)/\F5 y G x K e l S H r p dl F:=
  ⟨_,ZK fp X.tmps F f4,H,r,p,_,rfl,d2,V,A,(λa d=>by
   obtain⟨id,j,v,d6⟩:=d5 a d;obtain⟨ar,t,T,f2⟩:=(g.tree id j v).2.2 a d6;exact⟨ar,t,T,f2⟩),g.i0,(λa d=>by
   rcases g.i1 a d with b|b|b
   ·exact .inl b
   ·exact .inr ⟨g.ib a (.inl d),.inl b⟩
   exact .inr ⟨g.ib a (.inl d),.inr b⟩),g.size,g.os,g.tape,g.output,g.evo,λa d d7=>g.frame a d d7⟩
 rcases d8 with rfl|rfl
 ·exact⟨ap,cs⟩
 exact⟨ap,cs⟩
end
end
section
open Classical in
def pick {a:Type} (c:a->Prop):Option a:=if h:∃b,c b then some h.choose else none
theorem Yy {d:a->Prop} {c:a} (b:pick d=some c):d c:=by
 unfold pick at b;split at b
 ·rename_i e;cases b;exact e.choose_spec
 cases b
inductive nO where
 |v (τ:ag)
 |s (a:al)
 |p (id:Nat) (a b:List aV)
 |w (id:Nat)
structure l6 where
 g:List (Nat×nO)
 h:List (Nat×ag)
@[reducible] def oo:List (Nat×nO)->Type->Type
 |[],r=>r
 |(_,.v a)::l,r=>a.den×oo l r
 |(_,.s _)::l,r=>oo l r
 |(_,.p _ _ _)::l,r=>Nat×oo l r
 |(_,.w _)::l,r=>cI×oo l r
@[reducible] def sY:List (Nat×ag)->Type
 |[]=>Unit
 |(_,a)::l=>a.den×sY l
@[reducible] def l6.den (a:l6):Type:=oo a.g (sY a.h)
def ml {e:Type}:(c:List (Nat×nO))->oo c e->List (Nat×al)
 |[],_=>[]
 |(d,.v f)::c,s=>(d,.val f s.1)::ml c s.2
 |(d,.s a)::c,s=>(d,a)::ml c s
 |(d,.p id a b)::c,s=>(d,.ref id (a++.idx s.1::b))::ml c s.2
 |(d,.w id)::c,s=>(d,.view id [] s.1.1 s.1.2)::ml c s.2
def sf {b:Type}:(a:List (Nat×nO))->oo a b->b
 |[],s=>s
 |(_,.v _)::a,s=>sf a s.2
 |(_,.s _)::a,s=>sf a s
 |(_,.p _ _ _)::a,s=>sf a s.2
 |(_,.w _)::a,s=>sf a s.2
def sd:(a:List (Nat×ag))->sY a->List (Nat×aC)
 |[],_=>[]
 |(d,b)::a,s=>(d,⟨b,s.1⟩)::sd a s.2
def jm (a:l6) (b:a.den):aJ:=⟨ml a.g b,sd a.h (sf a.g b)⟩
def gA {τ:ag} (a:ag) (b:τ.den):Option a.den:=if e:τ=a then some (e▸b) else none
theorem iR {b:x.den} {c:n.den} (a:gA n b=some c):(⟨x,b⟩:aC)=⟨n,c⟩:=by
 unfold gA at a;split at a
 ·rename_i d;subst d;cases a;rfl
 cases a
def s2:aV->aV->Bool
 |.idx a,.idx b=>Nat.beq a b
 |.deref,.deref|.unst,.unst|.fst,.fst|.snd,.snd=>true
 |_,_=>false
theorem s2.ok {a:aV} (b:s2 T a=true):T=a:=by cases T<;>cases a<;>first|rfl|(cases b;done)|(rw[er b])
def j6:List aV->List aV->Bool
 |[],[]=>true
 |a::c,b::d=>s2 a b&&j6 c d
 |_,_=>false
theorem j6.ok:∀{c d:List aV},j6 c d=true->c=d
 |[],[],_=>rfl
 |[],_::_,b=>by cases b
 |_::_,[],b=>by cases b
 |a::c,e::d,b=>by simp only[j6,bd] at b;rw[s2.ok b.1,j6.ok b.2]
def rI:al->al->Bool
 |.ref a c,.ref b d=>Nat.beq a b&&j6 c d
 |.addr a c,.addr b d=>Nat.beq a b&&j6 c d
 |_,_=>false
theorem rI.ok {b c:al} (a:rI b c=true):b=c:=by cases b<;>cases c<;>first|(cases a;done)|(simp only[rI,bd] at a;rw[er a.1,j6.ok a.2])
def rJ:List al->List al->Bool
 |[],[]=>true
 |a::c,b::d=>rI a b&&rJ c d
 |_,_=>false
theorem rJ.ok:∀{c d:List al},rJ c d=true->c=d
 |[],[],_=>rfl
 |[],_::_,b=>by cases b
 |_::_,[],b=>by cases b
 |a::c,e::d,b=>by simp only[rJ,bd] at b;rw[rI.ok b.1,rJ.ok b.2]
def p6:al->al->Bool
 |.dg c e,.dg d f=>Nat.beq c d&&rJ e f
 |a,b=>rI a b
theorem p6.ok {b c:al} (a:p6 b c=true):b=c:=by cases b<;>cases c<;>first|exact rI.ok a|(simp only[p6,bd] at a;rw[er a.1,rJ.ok a.2])
def x1:List aV->List aV->List aV->cU
 |[],a,.idx k::b=>bif j6 a b then some k else none
 |s::c,a,d::b=>bif s2 s d then x1 c a b else none
 |_,_,_=>none
theorem L3:∀{f b e:List aV} {d:Nat},x1 f b e=some d->e=f++.idx d::b
 |[],b,[],d,a=>by cases a
 |[],b,s::e,d,a=>by
  cases s<;>simp only[x1] at a<;>try (cases a;done)
  cases c:j6 b e with
  |false=>rw[c] at a;cases a
  |true=>rw[c] at a;cases a;rw[j6.ok c];rfl
 |s::f,b,[],d,a=>by cases a
 |s::f,b,g::e,d,a=>by
  simp only[x1] at a;cases c:s2 s g with
  |false=>rw[c] at a;cases a
  |true=>rw[c] at a;rw[s2.ok c,L3 a];rfl
def od {f:Type} (e:List (Nat×al)) (g:Option f):(c:List (Nat×nO))->Option (oo c f)
 |[]=>g
 |(d,.v o)::c=>match gt e d with
  |.val _ m=>match gA o m with
   |some n=>(od e g c).map (λi=>(n,i))
   |none=>none
  |_=>none
 |(d,.s a)::c=>match p6 a (gt e d) with
  |true=>od e g c
  |false=>none
 |(d,.p id a b)::c=>match gt e d with
  |.ref h i=>bif Nat.beq id h then match x1 a b i with
   |some k=>(od e g c).map (λf=>(k,f))
   |none=>none else none
  |_=>none
 |(d,.w id)::c=>match gt e d with
  |.view h [] l j=>bif Nat.beq id h then(od e g c).map (λf=>((l,j),f)) else none
  |_=>none
def Bt (b:List (Nat×aC)):(a:List (Nat×ag))->Option (sY a)
 |[]=>some ()
 |(d,g)::a=>match ao b d with
  |some e=>match gA g e.2 with
   |some f=>(Bt b a).map (λc=>(f,c))
   |none=>none
  |none=>none
def us:List (Nat×ag)->Nat->Bool
 |[],_=>false
 |(k,_)::r,n=>bif Nat.beq k n then true else us r n
def oq:List (Nat×nO)->List (Nat×ag)->Bool
 |[],_=>true
 |(_,.v _)::l,h=>oq l h
 |(_,.s a)::l,h=>(a.ids.all λid=>us h id)&&oq l h
 |(_,.p id _ _)::l,h=>us h id&&oq l h
 |(_,.w id)::l,h=>us h id&&oq l h
def proj (a:l6) (b:aJ):Option a.den:=bif oq a.g a.h then od b.g (Bt b.h a.h) a.g else none
theorem Aw:∀{b:List (Nat×ag)} {c:sY b} {id:Nat},us b id=true->(ao (sd b c) id).isSome=true
 |[],_,_,a=>by cases a
 |(k,e)::b,c,id,a=>by
  simp only[us] at a;simp only[sd,ao];cases d:Nat.beq k id with
  |true=>rfl
  |false=>rw[d] at a;exact Aw (by simpa using a)
theorem xI {o:Type} {q:aJ} {n:Option o}:∀{e:List (Nat×nO)} {f:oo e o},od q.g n e=some f->mW (ml e f) q/\n=some (sf e f)
 |[],f,c=>⟨trivial,c⟩
 |(d,.v F)::e,f,c=>by
  simp only[od] at c;split at c
  case h_2=>cases c
  rename_i G D u;split at c
  case h_2=>cases c
  rename_i E x;obtain⟨y,k,rfl⟩:=dZ.1 c;obtain⟨h,i⟩:=xI k;refine⟨⟨?_,h⟩,i⟩;rw[u];cases iR x;rfl
 |(d,.s a)::e,f,c=>by
  simp only[od] at c;split at c
  case h_2=>cases c
  rename_i r;obtain⟨h,i⟩:=xI c;exact⟨⟨(p6.ok r).symm,h⟩,i⟩
 |(d,.p id a b)::e,f,c=>by
  simp only[od] at c;split at c
  case h_2=>cases c
  rename_i m y k;cases j:Nat.beq id m with
  |false=>rw[j] at c;cases c
  |true=>
  rw[j] at c;simp only[cond_true] at c;split at c
  case h_2=>cases c
  rename_i B t;obtain⟨z,l,rfl⟩:=dZ.1 c;obtain⟨h,i⟩:=xI l;refine⟨⟨?_,h⟩,i⟩;rw[k,L3 t,er j]
 |(d,.w id)::e,f,c=>by
  simp only[od] at c;split at c
  case h_2=>cases c
  rename_i m C A k;cases j:Nat.beq id m with
  |false=>rw[j] at c;cases c
  |true=>
  rw[j] at c;simp only[cond_true] at c;obtain⟨z,l,rfl⟩:=dZ.1 c;obtain⟨h,i⟩:=xI l;refine⟨⟨?_,h⟩,i⟩;rw[k,er j]
theorem KX {e:aJ}:∀{b:List (Nat×ag)} {c:sY b},Bt e.h b=some c->mX (sd b c) e
 |[],c,a=>trivial
 |(d,m)::b,c,a=>by
  simp only[Bt] at a;split at a
  case h_2=>cases a
  rename_i j g;split at a
  case h_2=>cases a
  rename_i l i;obtain⟨k,f,rfl⟩:=dZ.1 a;refine⟨?_,KX f⟩;rw[g];cases j;rw[iR i]
theorem xZ {r:Type} {c:List (Nat×ag)} {t:sY c}:∀{l:List (Nat×nO)} {s:oo l r},oq l c=true->kN (ml l s) (sd c t)=true
 |[],s,h=>rfl
 |(d,.v f)::l,s,h=>by have:=xZ (r:=r) (t:=t) (l:=l) (s:=s.2) h;simp only[kN,ml,rp,al.ids,List.all_nil,Bool.true_and] at this|-;exact this
 |(d,.s a)::l,s,h=>by simp only[oq,bd] at h;have:=xZ (r:=r) (t:=t) (l:=l) (s:=s) h.2;simp only[kN,ml,rp,bd] at this|-;refine⟨?_,this⟩;rw[eI] at h|-;exactλid e=>Aw (h.1 id e)
 |(_,.p id a b)::l,s,h=>by simp only[oq,bd] at h;have:=xZ (r:=r) (t:=t) (l:=l) (s:=s.2) h.2;simp only[kN,ml,rp,bd] at this|-;refine⟨?_,this⟩;simp only[al.ids,rp,List.all_nil,Bool.and_true];exact Aw h.1
 |(_,.w id)::l,s,h=>by simp only[oq,bd] at h;have:=xZ (r:=r) (t:=t) (l:=l) (s:=s.2) h.2;simp only[kN,ml,rp,bd] at this|-;refine⟨?_,this⟩;simp only[al.ids,rp,List.all_nil,Bool.and_true];exact Aw h.1
theorem q4 {a:l6} {c:a.den} (b:proj a i=some c):mW (jm a c).g i/\mX (jm a c).h i/\kN (jm a c).g (jm a c).h=true:=by
 unfold proj at b;cases d:oq a.g a.h with
 |false=>rw[d] at b;cases b
 |true=>
  rw[d] at b;obtain⟨e,f⟩:=xI b;exact⟨e,KX f,xZ d⟩
inductive fC where
 |v (τ:ag)
 |m (τ:ag)
 |o (τ:ag)
 |c (f:Nat) (τs:List ag)
 |n
 |s (f:Nat) (l:cY)
 |w (σ:ag)
@[reducible] def ks:List ag->Type
 |[]=>Unit
 |τ::a=>τ.den×ks a
@[reducible] def fI:List fC->Type
 |[]=>Unit
 |.c _ e::a=>ks e×fI a
 |.n::a=>Unit×fI a
 |.s _ _::a=>Unit×fI a
 |.v b::a=>b.den×fI a
 |.m b::a=>b.den×fI a
 |.o b::a=>b.den×fI a
 |.w d::a=>(List d.den×Nat×Nat)×fI a
@[reducible] def hn:List fC->Type->Type
 |[],a=>a
 |.m e::b,a=>e.den×hn b a
 |.w d::b,a=>List d.den×hn b a
 |.v _::b,a=>hn b a
 |.o _::b,a=>hn b a
 |.c _ _::b,a=>hn b a
 |.n::b,a=>hn b a
 |.s _ _::b,a=>hn b a
structure aB where
 f:Nat
 ps:List fC
 rs:List ag
 u2:fI ps->Option (hn ps (ks rs))
def hm:(c:List ag)->ks c->List aC
 |[],_=>[]
 |τ::b,a=>⟨τ,a.1⟩::hm b a.2
def eP {j:Type}:(f:List fC)->fI f->hn f j->List fJ
 |[],_,_=>[]
 |.v e::d,a,b=>.v ⟨e,a.1⟩::eP d a.2 b
 |.m e::d,a,b=>.m ⟨e,a.1⟩ b.1::eP d a.2 b.2
 |.o e::d,a,b=>.o ⟨e,a.1⟩::eP d a.2 b
 |.c h l::d,a,b=>.c h (hm l a.1)::eP d a.2 b
 |.n::d,a,b=>.n::eP d a.2 b
 |.w k::d,a,b=>.w k a.1.1 a.1.2.1 a.1.2.2 b.1::eP d a.2 b.2
 |.s g i::d,a,b=>.s g i::eP d a.2 b
def gL {d:Type}:(e:List fC)->hn e d->d
 |[],a=>a
 |.m _::b,a=>gL b a.2
 |.w _::b,a=>gL b a.2
 |.v _::b,a=>gL b a
 |.o _::b,a=>gL b a
 |.c _ _::b,a=>gL b a
 |.n::b,a=>gL b a
 |.s _ _::b,a=>gL b a
def ip:Nat->List fC->Option cy
 |_,[]=>none
 |k,.s a b::_=>some (k,a,b)
 |k,_::c=>ip (k+1) c
theorem xT {r:Type}:∀{k:Nat} {ps:List fC} {a:fI ps} {b:hn ps r},nq k (eP ps a b)=ip k ps
 |k,[],a,b=>rfl
 |k,e::d,a,b=>by have c:=λa b=>xT (r:=r) (k:=k+1) (ps:=d) (a:=a) (b:=b);cases e<;>first|exact c _ _|rfl
def aA (E:dW) (a:aB):Prop:=
 (∀(d:cQ) (e:World),(callFunc a.f d).run E.P e=.ok (.enter a.f d) e)/\∀c b,a.u2 c=some b->pI E a.f (eP a.ps c b) (hm a.rs (gL a.ps b))
def gg:(j:ag)->j.den->List aV->(a:ag)->Option a.den
 |_,c,[],a=>gA a c
 |.osl d,i,.idx h::b,a=>match i[h]? with
  |some g=>gg d g b a
  |none=>none
 |.optr d,c,.deref::b,a=>gg d c b a
 |.st d,c,.unst::b,a=>gg d c b a
 |.pr e _,c,.fst::b,a=>gg e c.1 b a
 |.pr _ f,c,.snd::b,a=>gg f c.2 b a
 |_,_,_,_=>none
theorem T5 {a:n.den}:gg n a [] x=gA x a:=by cases n<;>rfl
theorem g3:∀{g:List aV} {τ:ag} {e:τ.den} {d:ag} {f:d.den},gg τ e g d=some f->c4 τ e g d f
 |[],τ,e,d,f,c=>by rw[T5] at c;cases iR c;exact c4.eR.2 ⟨rfl,rfl⟩
 |s::g,τ,e,d,f,c=>by
  cases τ<;>cases s<;>simp only[gg] at c<;>try (cases c;done)
  case osl.idx t i=>
   split at c
   ·rename_i h j;exact⟨h,j,g3 c⟩
   cases c
  case optr.deref t=>exact g3 (τ:=t) c
  case st.unst t=>exact g3 (τ:=t) c
  case pr.fst a b=>exact g3 (τ:=a) c
  case pr.snd a b=>exact g3 (τ:=b) c
def uV {τ':ag} (b:τ'.den) (a:ag):Option a.den:=if e:c7 τ' a=true then some (cast (c7.den e) b) else none
theorem KM {b:x.den} {c:n.den} (a:uV b n=some c):l4 x b n c:=by
 unfold uV at a;split at a
 ·rename_i d;cases a;exact .same d (cast_heq _ _).symm
 cases a
def xG:(c:ag)->c.den->(b:ag)->Option b.den
 |.optr d,a,.ptr .dN e=>(uV (τ':=d) a e).map some
 |_,a,b=>uV a b
theorem Yt {c:x.den} {d:n.den} (a:xG x c n=some d):l4 x c n d:=by
 unfold xG at a;split at a
 ·obtain⟨f,b,rfl⟩:=dZ.1 a;simp only[uV] at b;split at b
  ·rename_i e;cases b;exact .ptr e (cast_heq _ _).symm
  cases b
 exact KM a
def mY:ag->Value->Bool
 |τ,.agg _=>n6 τ
 |_,.tuple _=>false
 |τ,_=>!n6 τ
theorem mY.ok (a:mY n G=true):bH n G.cells.toList=G:=by
 cases G<;>simp only[mY] at a<;>first
  |(cases a;done)
  |(rw[BA a];rfl)
  |(rw[vi] at a;rw[Bz a];rfl)
def mf (
 h:List (Nat×aC)) (f:cY):al->(a:ag)->Option a.den
 |.val _ g,a=>uV g a
 |.bP d,a=>bif mY a d then hf a d.cells.toList else none
 |.ref id c,a=>match db id f with
  |true=>none
  |false=>match ao h id with
   |none=>none
   |some b=>match dI b.1 c with
    |none=>none
    |some e=>match gg b.1 b.2 c e with
     |none=>none
     |some i=>xG e i a
 |_,_=>none
theorem GI {i:n.den} (a:mf e g d n=some i):rk e g d ⟨n,i⟩:=by
 cases d with
 |val c b=>exact KM a
 |bP p=>
  simp only[mf] at a;cases f:mY n p with
  |false=>rw[f] at a;cases a
  |true=>rw[f] at a;exact⟨a,mY.ok f⟩
 |ref id m=>
  simp only[mf] at a;split at a
  ·cases a
  rename_i j;split at a
  ·cases a
  rename_i o k;split at a
  ·cases a
  rename_i c q;split at a
  ·cases a
  rename_i b l;have:db id g=false/\∃h c b,ao e id=some h/\c4 h.1 h.2 m c b/\l4 c b n i:=⟨j,o,c,b,k,g3 l,Yt a⟩;exact this
 |_=>cases a
def m8 (b:List (Nat×aC)) (a:cY):(g:List ag)->List al->Option (ks g)
 |[],[]=>some ()
 |τ::d,c::as=>match mf b a c τ with
  |some f=>(m8 b a d as).map (λe=>(f,e))
  |none=>none
 |_,_=>none
theorem Ic {f:List (Nat×aC)} {d:cY}:∀{c:List ag} {e:List al} {b:ks c},m8 f d c e=some b->g1 (rk f d) e (hm c b)
 |[],[],_,_=>trivial
 |[],_::_,_,a=>by cases a
 |_::_,[],_,a=>by cases a
 |τ::j,i::as,b,a=>by
  simp only[m8] at a;split at a
  case h_2=>cases a
  rename_i l h;obtain⟨k,g,rfl⟩:=dZ.1 a;exact⟨GI h,Ic g⟩
def pA:List al->List fC->cY
 |.ref id []::as,.m _::a=>id::pA as a
 |.ref id []::as,.o _::a=>id::pA as a
 |.view id [] _ _::as,.w _::a=>id::pA as a
 |_::as,_::a=>pA as a
 |_,_=>[]
def qZ:Value->Bool
 |.slice none 0 0=>true
 |_=>false
theorem qZ.ok (a:qZ G=true):G=.slice none 0 0:=by
 unfold qZ at a;split at a
 ·rfl
 cases a
def xn:(a:ag)->Value->Option a.den
 |.osl _,.slice none 0 0=>some []
 |_,_=>none
theorem VW {b:n.den} (a:xn n G=some b):G=.slice none 0 0/\∃c,(⟨n,b⟩:aC)=⟨.osl c,[]⟩:=by
 unfold xn at a;split at a
 ·cases a;exact⟨rfl,_,rfl⟩
 cases a
def ea (d:List (Nat×aC)) (f:cY):(t:List fC)->List al->Option (fI t)
 |[],[]=>some ()
 |.v g::b,p::as=>match mf d f p g with
  |some e=>(ea d f b as).map (λa=>(e,a))
  |none=>none
 |.c r u::b,.dg q a::as=>bif Nat.beq q r then match m8 d f u a with
  |some e=>(ea d f b as).map (λa=>(e,a))
  |none=>none else none
 |.m g::b,.ref id []::as=>bif g.eu&&pF g then match ao d id with
  |some h=>match gA g h.2 with
   |some e=>(ea d f b as).map (λa=>(e,a))
   |none=>none
  |none=>none else none
 |.o g::b,.ref id []::as=>match ao d id with
  |some h=>match gA g h.2 with
   |some e=>(ea d f b as).map (λa=>(e,a))
   |none=>none
  |none=>none
 |.n::b,.bP i::as=>bif qZ i then(ea d f b as).map (λa=>((),a)) else none
 |.s _ _::b,_::as=>(ea d f b as).map (λa=>((),a))
 |.o g::b,.bP i::as=>match xn g i with
  |some e=>(ea d f b as).map (λa=>(e,a))
  |none=>none
 |.w l::b,.view id [] k j::as=>bif l.eu then(bif Nat.blt k j then match ao d id with
  |some h=>match gA (.osl l) h.2 with
   |some e=>(ea d f b as).map (λa=>((e,k,j),a))
   |none=>none
  |none=>none else none) else none
 |_,_=>none
def yB {h:Type} (f:List (Nat×aC)) (e:cY) (av:al) (c:ag) (d:c.den->Option h):Option h:=match av with
 |.ref id g=>match db id e with
  |true=>none
  |false=>match ao f id with
   |none=>none
   |some a=>match dI a.1 g with
    |none=>none
    |some i=>(gg a.1 a.2 g i).bind λj=>match xG i j c with
     |none=>none
     |some b=>d b
 |av=>match mf f e av c with
  |none=>none
  |some b=>d b
theorem RN {f:n.den->Option a}:yB e g d n f=(mf e g d n).bind f:=by
 cases d with
 |ref id h=>
  simp only[yB,mf];cases db id g with
  |true=>rfl
  |false=>
   simp only;cases ao e id with
   |none=>rfl
   |some c=>
    simp only;cases dI c.1 h with
    |none=>rfl
    |some i=>
     simp only;cases gg c.1 c.2 h i with
     |none=>rfl
     |some j=>
      simp only[aM];cases xG i j n<;>rfl
 |_=>
  simp only[yB];split
  ·rename_i b;rw[b];rfl
  rename_i b;rw[b];rfl
def iD {p:Type} (e:List (Nat×aC)) (g:cY):(x:List fC)->List al->(fI x->Option p)->Option p
 |[],[],a=>a ()
 |.v h::d,r::as,a=>yB e g r h λf=>iD e g d as λb=>a (f,b)
 |.c u y::d,.dg t b::as,a=>bif Nat.beq t u then match m8 e g y b with
  |some f=>iD e g d as λb=>a (f,b)
  |none=>none else none
 |.m h::d,.ref id []::as,a=>bif h.eu&&pF h then match ao e id with
  |some i=>match gA h i.2 with
   |some f=>iD e g d as λb=>a (f,b)
   |none=>none
  |none=>none else none
 |.o h::d,.ref id []::as,a=>match ao e id with
  |some i=>match gA h i.2 with
   |some f=>iD e g d as λb=>a (f,b)
   |none=>none
  |none=>none
 |.n::d,.bP j::as,a=>bif qZ j then iD e g d as λb=>a ((),b) else none
 |.s _ _::d,_::as,a=>iD e g d as λb=>a ((),b)
 |.o h::d,.bP j::as,a=>match xn h j with
  |some f=>iD e g d as λb=>a (f,b)
  |none=>none
 |.w q::d,.view id [] l k::as,a=>bif q.eu then(bif Nat.blt l k then match ao e id with
  |some i=>match gA (.osl q) i.2 with
   |some f=>iD e g d as λb=>a ((f,l,k),b)
   |none=>none
  |none=>none else none) else none
 |_,_,_=>none
theorem lK {A:Type} {d:List (Nat×aC)} {f:cY}:∀{l:List fC} {r:List al} {b:fI l->Option A},iD d f l r b=(ea d f l r).bind b
 |[],[],b=>rfl
 |[],_::_,b=>rfl
 |p::a,[],b=>by cases p<;>rfl
 |.v h::a,e::as,b=>by
  simp only[iD,ea,RN];cases mf d f e h with
  |none=>rfl
  |some g=>
   simp only[aM];rw[lK];cases ea d f a as<;>rfl
 |.c z B::a,e::as,b=>by
  cases e with
  |dg y i=>
   simp only[iD,ea];cases Nat.beq y z with
   |false=>rfl
   |true=>
    simp only[cond_true];cases m8 d f B i with
    |none=>rfl
    |some g=>
     simp only;rw[lK];cases ea d f a as<;>rfl
  |ref id p=>cases p<;>rfl
  |_=>rfl
 |.m h::a,e::as,b=>by
  cases e with
  |ref id p=>
   cases p with
   |cons=>rfl
   |nil=>
    simp only[iD,ea];cases(h.eu&&pF h) with
    |false=>rfl
    |true=>
     simp only[cond_true];cases ao d id with
     |none=>rfl
     |some j=>
      simp only;cases gA h j.2 with
      |none=>rfl
      |some g=>
       simp only;rw[lK];cases ea d f a as<;>rfl
  |_=>rfl
 |.o h::a,e::as,b=>by
  cases e with
  |ref id p=>
   cases p with
   |cons=>rfl
   |nil=>
    simp only[iD,ea];cases ao d id with
    |none=>rfl
    |some j=>
     simp only;cases gA h j.2 with
     |none=>rfl
     |some g=>
      simp only;rw[lK];cases ea d f a as<;>rfl
  |bP q=>
   simp only[iD,ea];cases xn h q with
   |none=>rfl
   |some g=>
    simp only;rw[lK];cases ea d f a as<;>rfl
  |_=>rfl
 |.w x::a,e::as,b=>by
  cases e with
  |view id p u t=>
   cases p with
   |cons=>rfl
   |nil=>
    simp only[iD,ea];cases x.eu with
    |false=>rfl
    |true=>
     simp only[cond_true];cases Nat.blt u t with
     |false=>rfl
     |true=>
     simp only[cond_true];cases ao d id with
     |none=>rfl
     |some j=>
      simp only;cases gA (.osl x) j.2 with
      |none=>rfl
      |some g=>
       simp only;rw[lK];cases ea d f a as<;>rfl
  |ref id p=>cases p<;>rfl
  |_=>rfl
 |.n::a,e::as,b=>by
  cases e with
  |bP q=>
   simp only[iD,ea];cases qZ q with
   |false=>rfl
   |true=>
    simp only[cond_true];rw[lK];cases ea d f a as<;>rfl
  |ref id p=>cases p<;>rfl
  |_=>rfl
 |.s C i::a,e::as,b=>by
  have k:∀g:Option (fI a),(g.bind λi=>b ((),i))=(g.map λi=>((),i)).bind b:=λg=>(by cases g<;>rfl);cases e with
  |ref id p=>cases p<;>(simp only[iD,ea];rw[lK];exact k _)
  |view id p u t=>cases p<;>(simp only[iD,ea];rw[lK];exact k _)
  |_=>simp only[iD,ea];rw[lK];exact k _
theorem Fr {r:Type}:∀{ps:List fC} {a:fI ps} {b:hn ps r} {avs:List al},eB avs (eP ps a b)=pA avs ps
 |[],a,b,avs=>by cases avs with|nil=>rfl|cons h c=>cases h<;>first|rfl|(rename_i id p;cases p<;>rfl)|(rename_i id p c g;cases p<;>rfl)
 |p::c,a,b,[]=>by cases p<;>rfl
 |p::c,a,b,f::avs=>by have d:=λa b=>Fr (r:=r) (ps:=c) (a:=a) (b:=b) (avs:=avs);cases p<;>cases f<;>first|exact d _ _|(rename_i id e;cases e<;>simp only[eP,eB,pA,d];done)|(rename_i id e c g;cases e<;>simp only[eP,eB,pA,d])
theorem n2 {G:Type} {r:List (Nat×aC)} {x:cY}:∀{t:List fC} {f:fI t} {g:hn t G} {i:List al},ea r x t i=some f->mM r x i (eP t f g)
 |[],f,g,[],_=>trivial
 |[],f,g,_::_,a=>by cases a
 |p::j,f,g,[],a=>by cases p<;>cases a
 |.v u::j,f,g,e::i,a=>by
  simp only[ea] at a;split at a
  case h_2=>cases a
  rename_i l h;obtain⟨k,d,rfl⟩:=dZ.1 a;exact⟨by cases e<;>exact GI h,n2 d⟩
 |.c F J::j,f,g,e::i,a=>by
  cases e with
  |dg E k=>
   simp only[ea] at a;cases b:Nat.beq E F with
   |false=>rw[b] at a;cases a
   |true=>
    rw[b] at a;obtain rfl:=er b;simp only[cond_true] at a;split at a
    case h_2=>cases a
    rename_i l h;obtain⟨I,d,rfl⟩:=dZ.1 a;exact⟨⟨rfl,Ic h⟩,n2 d⟩
  |ref id p=>cases p<;>cases a
  |_=>cases a
 |.m u::j,f,g,e::i,a=>by
  cases e with
  |ref id p=>cases p with
   |cons=>cases a
   |nil=>
    simp only[ea] at a;cases b:(u.eu&&pF u) with
    |false=>rw[b] at a;cases a
    |true=>
     rw[b] at a;simp only[bd] at b;simp only[cond_true] at a;split at a
     case h_2=>cases a
     rename_i B q;split at a
     case h_2=>cases a
     rename_i l h;obtain⟨k,d,rfl⟩:=dZ.1 a;refine⟨⟨?_,b.1,b.2⟩,n2 d⟩;rw[q,<-iR h]
  |_=>cases a
 |.o u::j,f,g,e::i,a=>by
  cases e with
  |ref id p=>cases p with
   |cons=>cases a
   |nil=>
    simp only[ea] at a;split at a
    case h_2=>cases a
    rename_i B q;split at a
    case h_2=>cases a
    rename_i l h;obtain⟨k,d,rfl⟩:=dZ.1 a;refine⟨?_,n2 d⟩;show ao r id=some _;rw[q,<-iR h]
  |bP C=>
   simp only[ea] at a;split at a
   case h_2=>cases a
   rename_i l h;obtain⟨k,d,rfl⟩:=dZ.1 a;exact⟨VW h,n2 d⟩
  |_=>cases a
 |.w H::j,f,g,e::i,a=>by
  cases e with
  |view id p A y=>cases p with
   |cons=>cases a
   |nil=>
    simp only[ea] at a;cases b:H.eu with
    |false=>rw[b] at a;cases a
    |true=>
     rw[b] at a;simp only[cond_true] at a;cases z:Nat.blt A y with
     |false=>rw[z] at a;cases a
     |true=>
     rw[z] at a;simp only[cond_true] at a;split at a
     case h_2=>cases a
     rename_i B q;split at a
     case h_2=>cases a
     rename_i l h;obtain⟨k,d,rfl⟩:=dZ.1 a;refine⟨⟨?_,⟨rfl,rfl⟩,eM z,b⟩,n2 d⟩;rw[q,<-iR h]
  |ref id p=>cases p<;>cases a
  |_=>cases a
 |.n::j,f,g,e::i,a=>by
  cases e with
  |bP C=>
   simp only[ea] at a;cases b:qZ C with
   |false=>rw[b] at a;cases a
   |true=>
    rw[b] at a;obtain⟨k,d,rfl⟩:=dZ.1 a;exact⟨qZ.ok b,n2 d⟩
  |ref id p=>cases p<;>cases a
  |_=>cases a
 |.s D k::j,f,g,e::i,a=>by
  have a:(ea r x j i).map (λl=>(((),l):fI (.s D k::j)))=some f:=by
   cases e with
   |ref id p=>cases p<;>exact a
   |view id p A y=>cases p<;>exact a
   |_=>exact a
  obtain⟨l,d,rfl⟩:=dZ.1 a;refine⟨?_,n2 d⟩;cases e with
  |ref id p=>cases p<;>trivial
  |view id p A y=>cases p<;>trivial
  |_=>trivial
end
section
def kT:(τ:ag)->τ.den->List aV->(b:ag)->b.den->Option τ.den
 |τ,_,[],_,a=>gA τ a
 |.osl f,h,.idx g::c,b,a=>match h[g]? with
  |some k=>(kT f k c b a).map λe=>h.set g e
  |none=>none
 |.optr f,d,.deref::c,b,a=>kT f d c b a
 |.st f,d,.unst::c,b,a=>kT f d c b a
 |.pr i _,d,.fst::c,b,a=>(kT i d.1 c b a).map λe=>(e,d.2)
 |.pr _ j,d,.snd::c,b,a=>(kT j d.2 c b a).map λe=>(d.1,e)
 |_,_,_,_,_=>none
theorem ZO {b:n.den} {a:x.den}:kT n b [] x a=gA n a:=by cases n<;>rfl
theorem dB.VN {d:n.den} {a:x.den} {b:n.den} (c:gA n a=some b):dB n d [] x a b:=by cases iR c;cases n<;>exact⟨rfl,rfl⟩
theorem lm:∀{k:List aV} {τ:ag} {g:τ.den} {f:ag} {h:f.den} {j:τ.den},kT τ g k f h=some j->dB τ g k f h j
 |[],τ,g,f,h,j,c=>by rw[ZO] at c;exact dB.VN c
 |s::k,τ,g,f,h,j,c=>by
  cases τ<;>cases s<;>simp only[kT] at c<;>try (cases c;done)
  case osl.idx t i=>
   split at c
   ·rename_i l m;obtain⟨d,e,rfl⟩:=dZ.1 c;exact⟨l,d,m,lm e,rfl⟩
   cases c
  case optr.deref t=>exact lm (τ:=t) c
  case st.unst t=>exact lm (τ:=t) c
  case pr.fst a b=>
   obtain⟨d,e,rfl⟩:=dZ.1 c;exact⟨d,lm e,rfl⟩
  case pr.snd a b=>
   obtain⟨d,e,rfl⟩:=dZ.1 c;exact⟨d,lm e,rfl⟩
def fH (a:Int):cU:=if 0<=a then some a.toNat else none
theorem VF {c:Int} (a:fH c=some b):c=(b:Int):=by
 unfold fH at a;split at a
 ·cases a;omega
 cases a
def bx (b:Nat) (a:Int):cU:=if 0<=a/\a.toNat<b then some a.toNat else none
theorem Ir {c:Int} (a:bx l c=some b):c=(b:Int)/\b<l:=by
 unfold bx at a;split at a
 ·cases a;omega
 cases a
def bK (a:Nat):Option Unit:=if a<=e8 then some () else none
theorem uC {c:Unit} (a:bK b=some c):b<=e8:=by
 unfold bK at a;split at a
 ·assumption
 cases a
def gm (b:IntKind) (c a:Int):cT:=if a≠0 then some (b.wrap (c.tdiv a)) else none
def gU (b a:Int):cT:=if a≠0 then some (b.tmod a) else none
def gn (a:IntKind) (c b:Int):cT:=if 0<=b then some (a.wrap (c*2^min b.toNat a.bits)) else none
def dk (b:IntKind) (c a:Int):cT:=if 0<=a then some (c.fdiv (2^min a.toNat b.bits)) else none
def dr (a:IntKind) (b c:Int):Int:=a.wrap (BitVec.ofInt a.bits b&&&BitVec.ofInt a.bits c).toNat
def eA (a:IntKind) (b c:Int):Int:=a.wrap (BitVec.ofInt a.bits b|||BitVec.ofInt a.bits c).toNat
def rj (a:IntKind) (b c:Int):Int:=a.wrap (BitVec.ofInt a.bits b^^^BitVec.ofInt a.bits c).toNat
def RB (a:IntKind) (b c:Int):Int:=a.wrap (BitVec.ofInt a.bits b&&&~~~BitVec.ofInt a.bits c).toNat
def tG (c:Option al) (a:Nat):cU:=
 match c with
 |none=>some a
 |some (.val (.int _) b)=>fH b
 |some _=>none
theorem yH {c:Option al} (a:tG c b=some l):p9 c b l:=by
 unfold tG at a;unfold p9;split at a
 ·cases a;rfl
 ·exact VF a
 cases a
def gh (b a c:Nat):Option Unit:=if b<=a/\a<=c then some () else none
theorem IJ {c:Unit} (a:gh l b W=some c):l<=b/\b<=W:=by
 unfold gh at a;split at a
 ·assumption
 cases a
def xH (_:Nat):Option Unit:=some ()
def ej (a b:Int):cU:=if 0<=a/\a<=b/\b<=(e8:Int) then some a.toNat else none
open Classical in
def mz {b:Type} (c:Nat) (d a:Option b):Option b:=if c=0 then if d=a then a else none else a
theorem VL {f g:Option a} {e:a} (c:mz b f g=some e):g=some e/\(b=0->f=some e):=by
 unfold mz at c;split at c
 ·split at c
  ·rename_i d;exact⟨c,λ_=>d.trans c⟩
  cases c
 rename_i d;exact⟨c,λh=>absurd h d⟩
def nW:cZ:=[0,1,28,2,29,14,24,3,30,22,20,15,25,17,4,8,31,27,13,23,21,19,16,7,26,12,18,6,11,5,10,9]
inductive Cj where
 |dv (av:al)
 |opt (α:Type) (o:Option α) (f:α->al)
 |new (α:Type) (o:Option α) (t:α->aC) (d:Nat)
 |no
def iW (tt:List (TypeId×ag)) (z:List (Nat×ag)) (k:List (Nat×aC)) (g:Operand->al) (w:Nat) (v:Op):Cj:=
 match v with
 |.binOp v _ b e _=>match g b,g e with
  |.val (.int c) b,.val (.int A) e=>if c=A then
   (match v with
   |.add=>.dv (.val (.int c) (c.wrap (b+e)))
   |.sub=>.dv (.val (.int c) (c.wrap (b-e)))
   |.mul=>.dv (.val (.int c) (c.wrap (b*e)))
   |.quo=>.opt Int (gm c b e) (.val (.int c))
   |.rem=>.opt Int (gU b e) (.val (.int c))
   |.shl=>.opt Int (gn c b e) (.val (.int c))
   |.shr=>.opt Int (dk c b e) (.val (.int c))
   |.and=>.dv (.val (.int c) (dr c b e))
   |.or=>.dv (.val (.int c) (eA c b e))
   |.xor=>.dv (.val (.int c) (rj c b e))
   |.andNot=>.dv (.val (.int c) (RB c b e))
   |_=>.no) else
   (match v with
   |.shl=>.opt Int (gn c b e) (.val (.int c))
   |.shr=>.opt Int (dk c b e) (.val (.int c))
   |_=>.no)
  |_,_=>.no
 |.unOp .neg _ b=>match g b with
  |.val (.int c) b=>.dv (.val (.int c) (c.wrap (0-b)))
  |_=>.no
 |.convert t p b=>match ao tt t,ao tt p,g b with
  |some (.int _),some (.int c),.val (.int _) b=>.dv (.val (.int c) (c.wrap b))
  |_,_,_=>.no
 |.nilCheck b=>match g b with
  |.val (.ptr r a) b=>.opt a.den b λe=>.val (.ptr r a) (some e)
  |_=>.no
 |.indexAddr h b q=>match eY tt h,g q with
  |some i,.val (.int _) q=>match g b with
   |.val (.a7 r a) j=>bif a2 i a then .opt a.den (ay j q) λe=>.val (.ptr r a) (some e) else .no
   |.ref id f=>match ao k id with
    |some d=>match dI d.1 f with
     |some (.osl a)=>bif a2 i a then .opt Nat ((gg d.1 d.2 f (.osl a)).bind λj=>bx j.length q) λc=>.addr id (f++[.idx c]) else .no
     |_=>.no
    |none=>.no
   |.view id [] s u=>match ao k id with
    |some d=>match d.1 with
     |.osl a=>bif a2 i a then .opt Nat (bx (u-s) q) λc=>.addr id [.idx (s+c)] else .no
     |_=>.no
    |none=>.no
   |_=>.no
  |_,_=>.no
 |.load h b=>match ao tt h with
  |some i=>match g b with
   |.addr id f=>match ao k id with
    |some d=>match dI d.1 f with
     |some a=>bif a2 i a&&a.pure then .opt a.den (gg d.1 d.2 f a) λe=>.val a e else .no
     |none=>.no
    |none=>.no
   |.ref id f=>match ao k id with
    |some d=>match dI d.1 f with
     |some (.optr a)=>bif a2 i a&&a.pure then .opt a.den (gg d.1 d.2 (f++[.deref]) a) λe=>.val a e else .no
     |_=>.no
    |none=>.no
   |.val (.ptr _ a) b=>bif a2 i a then .opt a.den b λe=>.val a e else .no
   |_=>.no
  |none=>.no
 |.fieldAddr h b m=>match jX tt h,g b with
  |some i,.val (.ptr r (.st a)) b=>bif a2 i a&&(dS a m).isSome then .opt a.den b λe=>(match pa a e m with
   |some n=>.val (.ptr r n.1) (some n.2)
   |none=>.dead) else .no
  |_,_=>.no
 |.slice h b s u none=>match eY tt h with
  |some i=>match g b with
   |.val (.a7 r a) j=>bif a2 i a then
    .opt cI ((tG (s.map g) 0).bind λl=>(tG (u.map g) j.length).bind λp=>(gh l p j.length).map λ_=>(l,p)) (λn=>.val (.a7 r a) ((j.take n.2).drop n.1)) else .no
   |.ref id f=>match ao k id with
    |some d=>match dI d.1 f with
     |some (.osl a)=>bif a2 i a then
      .opt cI ((gg d.1 d.2 f (.osl a)).bind λj=>(tG (s.map g) 0).bind λl=>(tG (u.map g) j.length).bind λp=>(gh l p j.length).bind λ_=>(xH j.length).map λ_=>(l,p)) (λn=>.view id f n.1 n.2) else .no
     |_=>.no
    |none=>.no
   |_=>.no
  |none=>.no
 |.makeSlice h l o=>match eY tt h,ao z w,ao k w with
  |some i,some (.osl a),none=>match kw a,g l,g o with
   |some y,.val (.int _) l,.val (.int _) o=>bif a2 i a&&Nat.ble a.size 2000 then
    .new Nat (ej l o) (λm=>⟨.osl a,List.replicate m y⟩) w else .no
   |_,_,_=>.no
  |_,_,_=>.no
 |.index h b q=>match ao tt h,g b,g q with
  |some .str,.bP (.string t),.val (.int _) m=>.opt Int (ou t m) (.val (.int .u8))
  |some .str,.val .str t,.val (.int _) m=>.opt Int (ou t m) (.val (.int .u8))
  |_,_,_=>.no
 |.lookup h b c B=>match ju tt h,g b,g c with
  |some i,.ref id f,.val (.int .i64) c=>match ao k id with
   |some d=>match dI d.1 f with
    |some (.mp a)=>match kw a with
     |some y=>bif a2 i a then .opt (Option (List (Int×a.den)×Nat)) (gg d.1 d.2 f (.mp a)) λx=>A0 a x y c B else .no
     |none=>.no
    |_=>.no
   |none=>.no
  |_,_,_=>.no
 |.call o=>match o.callee,o.args.toList,o.argTypes.toList with
  |.builtin .len,[b],[h]=>match eY tt h,g b with
   |some _,.ref id f=>match ao k id with
    |some d=>match dI d.1 f with
     |some (.osl a)=>.opt (List a.den) (gg d.1 d.2 f (.osl a)) λj=>.val (.int .i64) (j.length:Int)
     |_=>.no
    |none=>.no
   |none,.ref id f=>match ju tt h,ao k id with
    |some _,some d=>match dI d.1 f with
     |some (.mp a)=>.opt (Option (List (Int×a.den)×Nat)) (gg d.1 d.2 f (.mp a)) λx=>.val (.int .i64) (uF x)
     |_=>.no
    |_,_=>.no
   |_,_=>.no
  |_,_,_=>.no
 |_=>.no
theorem HW:∀{t:ag} {y:t.den} {b:Nat},(dS t b).isSome=true->∃d,pa t y b=some d
 |.pr e c,y,0,_=>⟨_,rfl⟩
 |.pr e c,y,b+1,a=>by
  simp only[dS] at a;split at a
  ·rename_i d f;exact HW (t:=c) (by rw[f];rfl)
  cases a
 |.int _,_,_,a=>by cases a
 |.bool,_,_,a=>by cases a
 |.str,_,_,a=>by cases a
 |.a7 _ _,_,_,a=>by cases a
 |.ptr _ _,_,_,a=>by cases a
 |.osl _,_,_,a=>by cases a
 |.optr _,_,_,a=>by cases a
 |.st _,_,_,a=>by cases a
 |.nil,_,_,a=>by cases a
 |.c6,_,_,a=>by cases a
def Cj.K (g:Cj) (b:al->List (Nat×aC)->Prop):Prop:=
 match g with
 |.dv e=>b e []
 |.opt _ c f=>∃a,c=some a/\b (f a) []
 |.new _ c h d=>∃a,c=some a/\b (.ref d []) [(d,h a)]
 |.no=>False
theorem Dj {tt:List (TypeId×ag)} {R:al->List (Nat×aC)->Prop} (a:(iW tt k e E b N).K R):(e7 tt k e E b N).K R:=by
 unfold iW at a;split at a
 ·rename_i N r m j am;simp only[e7];split at a
  case h_2=>exact a.elim
  rename_i q m U j i W;simp only[i,W];split at a
  ·rename_i z;subst z;split at a
   ·simp only[km,if_true];exact⟨_,⟨trivial,rfl⟩,a⟩
   ·simp only[km,if_true];exact⟨_,⟨trivial,rfl⟩,a⟩
   ·simp only[km,if_true];exact⟨_,⟨trivial,rfl⟩,a⟩
   ·obtain⟨x,g,f⟩:=a;unfold gm at g;split at g
    ·rename_i c;cases g;simp only[km,if_true];exact⟨_,⟨c,rfl⟩,f⟩
    cases g
   ·obtain⟨x,g,f⟩:=a;unfold gU at g;split at g
    ·rename_i c;cases g;simp only[km,if_true];exact⟨_,⟨c,rfl⟩,f⟩
    cases g
   ·obtain⟨x,g,f⟩:=a;unfold gn at g;split at g
    ·rename_i c;cases g;exact⟨_,⟨c,rfl⟩,f⟩
    cases g
   ·obtain⟨x,g,f⟩:=a;unfold dk at g;split at g
    ·rename_i c;cases g;exact⟨_,⟨c,rfl⟩,f⟩
    cases g
   ·simp only[km,if_true];exact⟨_,⟨trivial,rfl⟩,a⟩
   ·simp only[km,if_true];exact⟨_,⟨trivial,rfl⟩,a⟩
   ·simp only[km,if_true];exact⟨_,⟨trivial,rfl⟩,a⟩
   ·simp only[km,if_true];exact⟨_,⟨trivial,rfl⟩,a⟩
   exact a.elim
  split at a
  ·obtain⟨x,g,f⟩:=a;unfold gn at g;split at g
   ·rename_i c;cases g;exact⟨_,⟨c,rfl⟩,f⟩
   cases g
  ·obtain⟨x,g,f⟩:=a;unfold dk at g;split at g
   ·rename_i c;cases g;exact⟨_,⟨c,rfl⟩,f⟩
   cases g
  exact a.elim
 ·rename_i r m;simp only[e7];split at a
  case h_2=>exact a.elim
  rename_i q m i;rw[i];exact⟨_,rfl,a⟩
 ·rename_i V z m;simp only[e7,yN];split at a
  case h_2=>exact a.elim
  rename_i U q ap m aj o i;rw[aj,o,i];exact⟨_,rfl,a⟩
 ·rename_i m;simp only[e7,sG];split at a
  case h_2=>exact a.elim
  rename_i G h m i;rw[i];obtain⟨j,rfl,f⟩:=a;exact⟨j,rfl,f⟩
 ·rename_i r m T;simp only[e7,su];split at a
  case h_2=>exact a.elim
  rename_i l q T aj o;rw[aj,o];simp only;split at a
  ·rename_i G h F i;rw[i];simp only;cases d:a2 l h with
   |false=>rw[d] at a;exact a.elim
   |true=>
   rw[d] at a;obtain⟨j,c,f⟩:=a;exact⟨j,c,f⟩
  ·rename_i id B i;rw[i];simp only;split at a
   case h_2=>exact a.elim
   rename_i t n;rw[n];simp only;split at a
   case h_2=>exact a.elim
   rename_i h p;rw[p];simp only;cases d:a2 l h with
   |false=>rw[d] at a;exact a.elim
   |true=>
   rw[d] at a;obtain⟨j,c,f⟩:=a;obtain⟨F,P,c⟩:=bZ.1 c;obtain⟨u,v⟩:=Ir c;exact⟨(F,j),⟨g3 P,u,v⟩,f⟩
  ·rename_i id Z X i;rw[i];simp only;split at a
   case h_2=>exact a.elim
   rename_i t n;obtain⟨a3,m⟩:=t;rw[n];simp only at a|-;split at a
   case h_2=>exact a.elim
   rename_i h;simp only[dI];cases d:a2 l h with
   |false=>rw[d] at a;exact a.elim
   |true=>
   rw[d] at a;obtain⟨q,Y,f⟩:=a;obtain⟨u,v⟩:=Ir Y;exact⟨(m,q),⟨⟨rfl,rfl⟩,u,v⟩,f⟩
  exact a.elim
 ·rename_i r m;simp only[e7,sz];split at a
  case h_2=>exact a.elim
  rename_i l aj;rw[aj];simp only;split at a
  ·rename_i id B i;rw[i];simp only;split at a
   case h_2=>exact a.elim
   rename_i t n;rw[n];simp only;split at a
   case h_2=>exact a.elim
   rename_i h p;rw[p];simp only[sT];cases d:(a2 l h&&h.pure) with
   |false=>rw[d] at a;exact a.elim
   |true=>
   rw[d] at a;simp only[bd] at d;rw[d.1,d.2];obtain⟨j,c,f⟩:=a;exact⟨j,g3 c,f⟩
  ·rename_i id B i;rw[i];simp only;split at a
   case h_2=>exact a.elim
   rename_i t n;rw[n];simp only;split at a
   case h_2=>exact a.elim
   rename_i h p;rw[p];simp only[sT];cases d:(a2 l h&&h.pure) with
   |false=>rw[d] at a;exact a.elim
   |true=>
   rw[d] at a;simp only[bd] at d;rw[d.1,d.2];obtain⟨j,c,f⟩:=a;exact⟨j,g3 c,f⟩
  ·rename_i G h m i;rw[i];cases d:a2 l h with
   |false=>rw[d] at a;exact a.elim
   |true=>
   rw[d] at a;obtain⟨j,rfl,f⟩:=a;simp only[d,cond_true];exact f
  exact a.elim
 ·rename_i r m Q;simp only[e7,sm];split at a
  case h_2=>exact a.elim
  rename_i l G h m aj i;rw[aj,i];cases d:(a2 l h&&(dS h Q).isSome) with
  |false=>rw[d] at a;exact a.elim
  |true=>
  rw[d] at a;simp only[bd] at d;obtain⟨j,rfl,f⟩:=a;obtain⟨a0,S⟩:=HW (y:=j) d.2;simp only[S] at f;simp only[d.1,cond_true,S];exact f
 ·rename_i r m Z X;simp only[e7,s0];split at a
  case h_2=>exact a.elim
  rename_i l aj;rw[aj];simp only;split at a
  ·rename_i G h F i;rw[i];simp only;cases d:a2 l h with
   |false=>rw[d] at a;exact a.elim
   |true=>
   rw[d] at a;obtain⟨j,c,f⟩:=a;obtain⟨w,M,c⟩:=bZ.1 c;obtain⟨z,L,c⟩:=bZ.1 c;obtain⟨ad,O,rfl⟩:=dZ.1 c;obtain⟨u,v⟩:=IJ O;exact⟨(w,z),⟨yH M,yH L,u,v⟩,f⟩
  ·rename_i id B i;rw[i];simp only;split at a
   case h_2=>exact a.elim
   rename_i t n;rw[n];simp only;split at a
   case h_2=>exact a.elim
   rename_i h p;rw[p];simp only;cases d:a2 l h with
   |false=>rw[d] at a;exact a.elim
   |true=>
   rw[d] at a;obtain⟨j,c,f⟩:=a;obtain⟨F,P,c⟩:=bZ.1 c;obtain⟨w,M,c⟩:=bZ.1 c;obtain⟨z,L,c⟩:=bZ.1 c;obtain⟨ad,O,c⟩:=bZ.1 c;obtain⟨e1,an,rfl⟩:=dZ.1 c;obtain⟨u,v⟩:=IJ O;exact⟨(F,w,z),⟨g3 P,yH M,yH L,u,v⟩,f⟩
  exact a.elim
 ·rename_i r w C;simp only[e7,sC];split at a
  case h_2=>exact a.elim
  rename_i l h aj o s;rw[aj,o,s];simp only;split at a
  case h_2=>exact a.elim
  rename_i x q w U C A D I;rw[A,D,I];simp only;cases d:(a2 l h&&Nat.ble h.size 2000) with
  |false=>rw[d] at a;exact a.elim
  |true=>
  rw[d] at a;obtain⟨j,c,f⟩:=a;unfold ej at c;split at c
  ·rename_i J;cases c;exact⟨(w.toNat,C.toNat),⟨(Int.toNat_of_nonneg J.1).symm,(Int.toNat_of_nonneg (Int.le_trans J.1 J.2.1)).symm,by show w.toNat<=C.toNat;omega,by show C.toNat<=e8;omega⟩,f⟩
  cases c
 ·rename_i r m T;simp only[e7,BQ];split at a
  ·rename_i V q Q aj o s;rw[aj,o,s];obtain⟨H,d,f⟩:=a;exact⟨H,d,f⟩
  ·rename_i V q Q aj o s;rw[aj,o,s];obtain⟨H,d,f⟩:=a;exact⟨H,d,f⟩
  exact a.elim
 ·rename_i r m q av;simp only[e7,sA];split at a
  case h_2=>exact a.elim
  rename_i l id B q aj o s;rw[aj,o,s];simp only;split at a
  case h_2=>exact a.elim
  rename_i t n;rw[n];simp only;split at a
  case h_2=>exact a.elim
  rename_i h p;rw[p];simp only;split at a
  case h_2=>exact a.elim
  rename_i x g;rw[g];simp only;cases d:a2 l h with
  |false=>rw[d] at a;exact a.elim
  |true=>
  rw[d] at a;obtain⟨j,c,f⟩:=a;exact⟨j,g3 c,f⟩
 ·rename_i C;simp only[e7];split at a
  ·rename_i m r aj o s;rw[aj,o,s];simp only;split at a
   ·rename_i l id B A D;rw[A,D];simp only[sy,A];split at a
    case h_2=>exact a.elim
    rename_i t n;rw[n];simp only;split at a
    case h_2=>exact a.elim
    rename_i h p;rw[p];obtain⟨j,c,f⟩:=a;exact⟨j,g3 c,f⟩
   ·rename_i id B A D;rw[A,D];simp only[sE];split at a
    case h_2=>exact a.elim
    rename_i l t I n;rw[I,n];simp only;split at a
    case h_2=>exact a.elim
    rename_i h p;rw[p];obtain⟨j,c,f⟩:=a;exact⟨j,g3 c,f⟩
   exact a.elim
  exact a.elim
 exact a.elim
def jP {e:Type} (c d:List e) (a b:Nat):List e:=c.take a++(d.take (b-a)++c.drop (a+min d.length (b-a)))
end
section
def w3:al->Bool
 |.val _ _=>true
 |_=>false
def DU:al->Bool
 |.val _ _=>true
 |.dg _ a=>a.all w3
 |_=>false
theorem DV (b:DU d=true):∀id∈d.ids,False:=by
 intro id a;cases d with
 |val g f=>simp[al.ids] at a
 |dg h c=>
  have b:c.all w3=true:=b;have:∀c:List al,c.all w3=true->∀id∈al.mq c,False:=by
   intro c
   induction c with
   |nil=>intro _ id a;simp[al.mq] at a
   |cons d c e=>
    intro b id a;simp only[rp,bd] at b;simp only[al.mq,dO] at a;rcases a with a|a
    ·cases d with
     |val g f=>simp[al.ids] at a
     |_=>cases b.1
    exact e b.2 id a
  exact this c b id a
 |_=>cases b
def nC (C:dn) (c:List (Nat×al)):Prop:=
 (∀a,C.I0 a\/C.B a->a<C.w0.heap.size/\¬C.F0 a)/\
 ∀b∈c,b.1∈C.pin/\DU b.2=true/\bE (ba C.I0 C.B) C.w0 [] (λ_=>[]) (λ_=>[]) b.2 (C.vs b.1)
section
variable {E:dW} {C:dn}
theorem nC.nil (b:∀a,C.I0 a\/C.B a->a<C.w0.heap.size/\¬C.F0 a):nC C []:=⟨b,λc b=>by cases b⟩
theorem T8 (b c:List (Nat×al)) (a:Nat):gt (b++c) a=match ao b a with|some d=>d|none=>gt c a:=by unfold gt;rw[iF];cases ao b a<;>rfl
theorem xa {e:Type}:∀{c:List (Nat×e)} {b:Nat} {d:e},ao c b=some d->(b,d)∈c
 |[],_,_,a=>by cases a
 |(g,v0)::c,b,d,a=>by
  rw[bU] at a;split at a
  ·rename_i f;cases a;subst f;exact jI ..
  exact e2 _ (xa a)
theorem e3.kg {f:List (Nat×al)} (j:nC C f) {k:cQ} (o:e3 C i k v):e3 C ⟨f++i.g,i.h⟩ k v:=by
 obtain⟨l,x,n,b⟩:=o;refine⟨l,x,n,{b with tmp:=λc=>?_}⟩;show bE _ _ _ _ _ (gt (f++i.g) c) _;rw[T8];split
 ·rename_i m t;obtain⟨p,q,d⟩:=j.2 _ (xa t);have d:bE (ba C.I0 C.B) C.w0 [] (λ_=>[]) (λ_=>[]) m (C.vs c):=d;rw[b.pin c p];refine d.qW (λu a e=>?_) (λid s=>(DV q id s).elim);have r:C.I0 a\/C.B a:=lN e;obtain⟨ar,w⟩:=j.1 a r;refine⟨?_,bN.of_heap (b.frame a ar w)⟩;cases u
  ·exact b.i0 a e
  exact e.imp (b.i0 a) id
 exact b.tmp c
theorem J.kg {d:List (Nat×al)} (k:nC C d) {c:Code} {a:aJ} {b:Exit->aJ->Prop} (f:J E C c ⟨d++a.g,a.h⟩ b):J E C c a b:=
 λe l i j=>f e l (i.kg k) j
def qH (a:List (Nat×al)):cY->Option (List (Nat×al))
 |[]=>some []
 |k::c=>match gt a k with
  |.val g f=>(qH a c).map λb=>(k,.val g f)::b
  |.dg e d=>bif d.all w3 then(qH a c).map λb=>(k,.dg e d)::b else none
  |_=>none
theorem DP {l:List (Nat×al)}:∀{j:cY} {d:List (Nat×al)},qH l j=some d->∀c∈d,c.1∈j/\DU c.2=true/\gt l c.1=c.2
 |[],d,a,c,b=>by cases a;cases b
 |k::j,d,a,c,b=>by
  simp only[qH] at a;split at a
  ·rename_i q p i;obtain⟨n,h,rfl⟩:=dZ.1 a;rcases dh.1 b with rfl|b
   ·exact⟨jI ..,rfl,i⟩
   obtain⟨e,f⟩:=DP h c b;exact⟨e2 _ e,f⟩
  ·rename_i o m i;cases g:m.all w3 with
   |false=>rw[g] at a;cases a
   |true=>
   rw[g] at a;obtain⟨n,h,rfl⟩:=dZ.1 a;rcases dh.1 b with rfl|b
   ·exact⟨jI ..,g,i⟩
   obtain⟨e,f⟩:=DP h c b;exact⟨e2 _ e,f⟩
  cases a
theorem J.keep {N:Code} {I L:List (Nat×al)} {M:Exit->aJ->Prop} (q:nC C I) (ap:qH i.g D=some L) (d:∀k:dn,k.n=C.n->k.pin=D++C.pin->nC k (L++I)->(∀t,rB C t->rB k t)->(jC E C.I0 C.w0->jC E k.I0 k.w0)->J E k N i M):J E C N i M:=by
 rintro u x ⟨y,P,z,b⟩ Z
 let k:dn:={I0:=y,B:=C.B,F0:=λa=>∃id e,ao i.h id=some e/\a∈z id,w0:=x,n:=C.n,pin:=D++C.pin,vs:=λp=>u.tmps.getD p undef}
 have X:bt k i u.tmps x y P z:=
  {n:=b.n,i0:=λ_ d=>d,i1:=λ_ d=>.inl d,ib:=b.ib,tree:=λid e j=>⟨(b.tree id e j).1,(b.tree id e j).2.1,λa c=>⟨((b.tree id e j).2.2 a c).1,((b.tree id e j).2.2 a c).2.1,((b.tree id e j).2.2 a c).2.2.1,.inr ⟨id,e,j,c⟩⟩⟩,dis:=b.dis,tmp:=b.tmp,frame:=λ_ _ _=>rfl,evo:=λ_ _=>.refl _ _,size:=a8 _,os:=rfl,tape:=rfl,output:=rfl,pin:=λp _=>rfl}
 have an:nC k (L++I):=by
  refine⟨λa c=>⟨b.ib a c,?_⟩,λw o=>?_⟩
  ·rintro⟨id,e,j,Y⟩;obtain⟨ar,s,_⟩:=(b.tree id e j).2.2 a Y;exact c.elim ar s
  rcases dO.1 o with o|o
  ·obtain⟨l,m,A⟩:=DP ap w o;refine⟨dO.2 (.inl l),m,?_⟩;have:=b.tmp w.1;rw[A] at this;exact this.qW (λO a r=>⟨r,bN.refl _ _⟩) (λid G=>(DV m id G).elim)
  obtain⟨l,m,A⟩:=q.2 w o;refine⟨dO.2 (.inr l),m,?_⟩;show bE _ _ _ _ _ _ (u.tmps.getD w.1 undef);rw[b.pin _ l];refine A.qW (λO a r=>?_) (λid G=>(DV m id G).elim);obtain⟨ar,s⟩:=q.1 a (lN r);refine⟨?_,bN.of_heap (b.frame a ar s)⟩;cases O
  ·exact b.i0 a r
  exact r.imp (b.i0 a) id
 have a0:∀t,rB C t->rB k t:=by
  rintro(_|⟨p,d1,d2⟩) av
  ·trivial
  obtain⟨Q,R,a,K,dl,ci,S,T,co,cs⟩:=av;refine⟨k2 _ Q,λv H=>k2 _ (R v H),a,K,dl,(b.pin p Q).trans ci,gO S b.size,?_,?_,?_⟩
  ·rintro⟨id,e,j,c⟩;rcases((b.tree id e j).2.2 a c).2.2.2 with l|l
   ·omega
   exact T l
  ·have c:=b.frame a S T;rw[<-co];unfold World.cell?;rw[show x.heap[(⟨a,K,none⟩:Addr).block]?=C.w0.heap[(⟨a,K,none⟩:Addr).block]? from c]
  rw[cs];exact hW λv H=>(b.pin v (R v H)).symm
 refine wp_mono (d k rfl rfl an a0 (λW=>b.glob q.1 W) u x ⟨y,P,z,X⟩ Z) ?_;rintro d0 ds d3 ⟨cv,o,⟨U,ce,V,f⟩,ad⟩;have F:∀a,k.F0 a->C.w0.heap.size<=a\/C.F0 a:=(by rintro a ⟨id,e,j,c⟩;exact((b.tree id e j).2.2 a c).2.2.2);refine⟨cv,o,⟨U,ce,V,?_⟩,ad⟩;refine{n:=f.n,i0:=λa c=>f.i0 a (b.i0 a c),i1:=λa c=>?_,ib:=f.ib,tree:=λid e j=>?_,dis:=f.dis,tmp:=f.tmp,frame:=λa l m=>?_,evo:=λa c=>(b.evo a c).trans (f.evo a (gO c b.size)),size:=da b.size f.size,os:=f.os.trans b.os,tape:=f.tape.trans b.tape,output:=f.output.trans b.output,pin:=λp q=>?_}
 ·rcases f.i1 a c with d|d|d
  ·exact b.i1 a d
  ·exact .inr (.inl (da b.size d))
  exact .inr (F a d)
 ·obtain⟨ar,s,a3⟩:=f.tree id e j;refine⟨ar,s,λa c=>?_⟩;obtain⟨a4,bl,bs,aL⟩:=a3 a c;refine⟨a4,bl,bs,?_⟩;rcases aL with d|d
  ·exact .inl (da b.size d)
  exact F a d
 ·refine(f.frame a (gO l b.size) ?_).trans (b.frame a l m);intro am;rcases F a am with d|d
  ·omega
  exact m d
 rw[f.pin p (dO.2 (.inr q))];exact b.pin p q
end
end
structure bm where
 d:Option (Nat×al)
 S:cY
 keep:List (Nat×List aV)
 put:List (Nat×aC)
variable{p:bm}
def lL (a:cY) (c:List (Nat×List aV)) (b:List (Nat×al)):List (Nat×al):=match a with
 |[]=>b
 |_=>kill a c b
def o6 (a:cY) (b:List (Nat×aC)):List (Nat×aC):=match a with
 |[]=>b
 |_=>del a b
def bm.app (a:bm) (b:aJ):aJ:=⟨match a.d with
 |some c=>c::lL a.S a.keep b.g
 |none=>lL a.S a.keep b.g,a.put++o6 a.S b.h⟩
theorem UD (d:List (Nat×List aV)) (a:al):ef [] d a=a:=by
 have b:∀a,dt [] d a=a:=λa=>(by have:(a.ids.any λc=>db c [])=false:=(by rw[th];intro c _;simp[db]);simp only[dt,al.dJ,this,Bool.false_and,cond_false]);cases a with
 |dw e=>simp only[ef,hW (λa _=>b a),List.map_id']
 |_=>exact b _
theorem ID (c:List (Nat×List aV)):∀b:List (Nat×al),kill [] c b=b
 |[]=>rfl
 |(k,a)::b=>by have:=ID c b;simp only[kill,ep,UD] at this|-;rw[this]
theorem Hn:∀a:List (Nat×aC),del [] a=a
 |[]=>rfl
 |x::a=>by have:=Hn a;simp only[del] at this|-;rw[jH,if_pos (by simp[db]),this]
theorem n7 (a:cY) (c:List (Nat×List aV)) (b:List (Nat×al)):lL a c b=kill a c b:=by
 cases a
 ·exact(ID c b).symm
 rfl
theorem sa (a:cY) (b:List (Nat×aC)):o6 a b=del a b:=by
 cases a
 ·exact(Hn b).symm
 rfl
def pz {k:Type} (tt:List (TypeId×ag)) (f:List (Nat×aC)) (m:TypeId) (q v:al) (e:bm->Option k):Option k:=
 match pp f q with
 |none=>none
 |some (
  id,p)=>match ao f id,ao tt m with
  |some a,some o=>match dI a.1 p with
   |none=>none
   |some b=>bif a2 o b then match v with
    |.ref c g=>match ao f c with
     |some l=>bif Nat.beq id c then none else(gg l.1 l.2 g b).bind λh=>(kT a.1 a.2 p b h).bind λd=>e ⟨none,[id,c],[(id,p)],[(id,⟨a.1,d⟩)]⟩
     |none=>none
    |.app c g i j n=>match gA (τ:=.osl i) b j with
     |some _=>bif Nat.beq c id&&j6 g p then(gg a.1 a.2 p (.osl i)).bind λr=>(kT a.1 a.2 p (.osl i) (r++j)).bind λd=>e ⟨none,id::n,[(id,p)],[(id,⟨a.1,d⟩)]⟩ else none
     |none=>none
    |v=>match coe b v with
     |some h=>(kT a.1 a.2 p b h).bind λd=>e ⟨none,[id],[(id,p)],[(id,⟨a.1,d⟩)]⟩
     |none=>none
   else none
  |_,_=>none
theorem aaa {s:a} {o:bm->Option a} {tt:List (TypeId×ag)} (b:pz tt i.h c t d o=some s) (m:∀p,o p=some s->u (p.app i)):(BP tt i c t d).K u:=by
 unfold pz at b;unfold BP;split at b
 ·cases b
 rename_i id F A;rw[A];simp only;split at b
 case h_2=>cases b
 rename_i L G B z;obtain⟨O,N⟩:=L;rw[B,z];simp only at b|-;split at b
 ·cases b
 rename_i I E;rw[E];simp only;cases q:a2 G I with
 |false=>rw[q] at b;cases b
 |true=>
 rw[q] at b;simp only[cond_true] at b|-;split at b
 ·rename_i f g;split at b
  case h_2=>cases b
  rename_i J C;obtain⟨P,M⟩:=J;cases e:Nat.beq id f with
  |true=>rw[e] at b;cases b
  |false=>
  rw[e] at b;obtain⟨n,j,b⟩:=bZ.1 b;obtain⟨l,k,b⟩:=bZ.1 b;simp only[C,e,cond_false];exact⟨(n,l),⟨g3 j,lm k⟩,m _ b⟩
 ·rename_i f g w v r;split at b
  case h_2=>cases b
  rename_i n j;cases iR j;cases e:(Nat.beq f id&&j6 g F) with
  |false=>rw[e] at b;cases b
  |true=>
  rw[e] at b;simp only[bd] at e;obtain⟨H,D,b⟩:=bZ.1 b;obtain⟨l,k,b⟩:=bZ.1 b;simp only[dif_pos];exact⟨(H,l),⟨er e.1,j6.ok e.2,g3 D,lm k⟩,m _ b⟩
 rename_i d x y;split at b
 case h_2=>cases b
 rename_i n j;obtain⟨l,k,b⟩:=bZ.1 b;split
 ·rename_i f g;exact(x f g rfl).elim
 ·rename_i f g w v r;exact(y f g w v r rfl).elim
 rw[j];exact⟨l,lm k,m _ b⟩
def jA (e:List (Nat×aC)) (a:ag) (i:al):Option (List a.den):=
 match i with
 |.val (.a7 _ h) d=>gA (τ:=.osl h) (.osl a) d
 |.bP (.slice none 0 0)=>some []
 |.ref id c=>match ao e id with
  |some b=>bif a.pure then gg b.1 b.2 c (.osl a) else none
  |none=>none
 |.view id c g f=>match ao e id with
  |some b=>bif a.pure then(gg b.1 b.2 c (.osl a)).bind λd=>some ((d.take f).drop g) else none
  |none=>none
 |_=>none
def kl.Ce {c:ag} (e:kl c) (b:List c.den):Prop:=
 match e with
 |.dv f=>f=b
 |.part _ g d=>∃a,g a/\d a=b
 |.bad=>False
theorem x8 {f:List n.den} (a:jA e n d=some f):(pG e n d).Ce f:=by
 unfold jA at a;unfold pG;split at a
 ·rename_i p q h;cases iR a;simp only[dif_pos];rfl
 ·cases a;rfl
 ·rename_i id j;split at a
  case h_2=>cases a
  rename_i g c;obtain⟨l,k⟩:=g;simp only[c];cases b:n.pure with
  |false=>rw[b] at a;cases a
  |true=>rw[b] at a;exact⟨f,g3 a,rfl⟩
 ·rename_i id j o m;split at a
  case h_2=>cases a
  rename_i g c;obtain⟨l,k⟩:=g;simp only[c];cases b:n.pure with
  |false=>rw[b] at a;cases a
  |true=>
   rw[b] at a;obtain⟨h,i,a⟩:=bZ.1 a;cases a;exact⟨h,g3 i,rfl⟩
 cases a
theorem kl.Ce.to {d:ag} {c:kl d} {a:List d.den} (b:c.Ce a) {g:Nat->Prop} {f:List d.den->aJ} {e:aJ->Prop} (h:g a.length) (i:e (f a)):(c.to g f).K e:=by
 cases c with
 |dv l=>obtain rfl:l=a:=b;exact⟨(),h,i⟩
 |part n o m=>obtain⟨k,j,rfl⟩:=b;exact⟨k,⟨j,h⟩,i⟩
 |bad=>exact b.elim
def mV {n:Type} (tt:List (TypeId×ag)) (p:List (Nat×ag)) (d:List (Nat×aC)) (b:Nat) (o:TypeId) (q g:al) (f:bm->Option n):Option n:=
 match eY tt o with
 |none=>none
 |some i=>
  match q with
  |.ref id []=>match ao d id with
   |some ⟨.osl a,e⟩=>bif a2 i a&&Nat.ble a.size 1300 then
    match a.pure with
    |true=>(jA d a g).bind λc=>(bK (e.length+c.length)).bind λ_=>f ⟨some (b,.ref b []),[id,b],[],[(b,⟨.osl a,e++c⟩)]⟩
    |false=>match g with
     |.ref k []=>match ao d k with
      |some r=>match gA (.osl a) r.2 with
       |some c=>bif Nat.beq id k then none else(bK (e.length+List.length (α:=a.den) c)).bind λ_=>f ⟨some (b,.ref b []),[id,k,b],[],[(b,⟨.osl a,List.append (α:=a.den) e c⟩)]⟩
       |none=>none
      |none=>none
     |_=>none
    else none
   |_=>none
  |.ref id h=>match ao d id,ao d b with
   |some j,none=>match dI j.1 h with
    |some (.osl a)=>bif a2 i a&&Nat.ble a.size 1300&&a.ik then
     (gg j.1 j.2 h (.osl a)).bind λe=>(jA d a g).bind λc=>(bK (List.length (α:=a.den) e+c.length)).bind λ_=>
      f ⟨some (b,.app id h a c [b]),[id],[(id,h),(id,[])],[(b,⟨.c6,()⟩),(id,j)]⟩
     else none
    |_=>none
   |_,_=>none
  |.view id [] m l=>match ao d id with
   |some ⟨.osl a,e⟩=>bif a2 i a&&Nat.ble a.size 1300 then
    (jA d a g).bind λc=>(bK (List.length (α:=a.den) ((e.take l).drop m)+c.length)).bind λ_=>f ⟨some (b,.ref b []),[id,b],[],[(b,⟨.osl a,(e.take l).drop m++c⟩)]⟩
    else none
   |_=>none
  |.bP (.slice none 0 0)=>match ao p b with
   |some (.osl a)=>bif a2 i a&&Nat.ble a.size 1300 then
    (jA d a g).bind λc=>(bK c.length).bind λ_=>f ⟨some (b,.ref b []),[b],[],[(b,⟨.osl a,c⟩)]⟩
    else none
   |_=>none
  |_=>none
theorem RG {A:a} {x:bm->Option a} {tt:List (TypeId×ag)} (e:mV tt k i.h b c d t x=some A) (m:∀y,x y=some A->u (y.app i)):(yA tt k i b c d t).K u:=by
 unfold mV at e;unfold yA;split at e
 ·cases e
 rename_i s F;rw[F];simp only;split at e
 ·rename_i id;simp only;split at e
  case h_2=>cases e
  rename_i l v o;rw[o];simp only;cases g:(a2 s l&&Nat.ble l.size 1300) with
  |false=>rw[g] at e;cases e
  |true=>
  rw[g] at e;simp only[cond_true] at e|-;split at e
  ·rename_i n;rw[n];obtain⟨q,f,e⟩:=bZ.1 e;obtain⟨_,j,e⟩:=bZ.1 e;exact(x8 f).to (uC j) (m _ e)
  rename_i n;rw[n];split at e
  case h_2=>cases e
  rename_i H;split at e
  case h_2=>cases e
  rename_i M E;obtain⟨V,R⟩:=M;split at e
  case h_2=>cases e
  rename_i q f;cases iR f;cases w:Nat.beq id H with
  |true=>rw[w] at e;cases e
  |false=>
  rw[w] at e;obtain⟨_,j,e⟩:=bZ.1 e;simp only[E,dif_pos,w,cond_false];exact⟨(),uC j,m _ e⟩
 ·rename_i id z n;split at e
  case h_2=>cases e
  rename_i L o D;obtain⟨U,S⟩:=L;simp only at e;split at e
  case h_2=>cases e
  rename_i l G;cases g:(a2 s l&&Nat.ble l.size 1300&&l.ik) with
  |false=>rw[g] at e;cases e
  |true=>
  rw[g] at e;obtain⟨v,r,e⟩:=bZ.1 e;obtain⟨q,f,e⟩:=bZ.1 e;obtain⟨_,j,e⟩:=bZ.1 e;have j:=uC j;have f:=x8 f;have r:=g3 r;cases z with
  |nil=>exact(n rfl).elim
  |cons Q z=>
  simp only[o,D,G,g,cond_true];split
  ·rename_i J p;rw[p] at f;obtain rfl:J=q:=f;exact⟨v,⟨r,j⟩,m _ e⟩
  ·rename_i T W N p;rw[p] at f;obtain⟨I,B,rfl⟩:=f;exact⟨(v,I),⟨r,B,j⟩,m _ e⟩
  rename_i p;rw[p] at f;exact f.elim
 ·rename_i id P O;simp only;split at e
  case h_2=>cases e
  rename_i l v o;rw[o];simp only;cases g:(a2 s l&&Nat.ble l.size 1300) with
  |false=>rw[g] at e;cases e
  |true=>
  rw[g] at e;simp only[cond_true] at e|-;obtain⟨q,f,e⟩:=bZ.1 e;obtain⟨_,j,e⟩:=bZ.1 e;exact(x8 f).to (uC j) (m _ e)
 ·simp only;split at e
  case h_2=>cases e
  rename_i l C;rw[C];simp only;cases g:(a2 s l&&Nat.ble l.size 1300) with
  |false=>rw[g] at e;cases e
  |true=>
  rw[g] at e;simp only[cond_true] at e|-;obtain⟨q,f,e⟩:=bZ.1 e;obtain⟨_,j,e⟩:=bZ.1 e;exact(x8 f).to (uC j) (m _ e)
 cases e
def nS (d:List (Nat×ag)) (c:List (Nat×aC)) (a:Nat) (h:al):Option bm:=
 match h with
 |.ref id []=>match ao c id with
  |some b=>some ⟨some (a,.ref a []),[id,a],[],[(a,b)]⟩
  |none=>none
 |.ref id g=>bif Nat.beq id a then none else some ⟨some (a,.ref id g),[a],[],[]⟩
 |.view id [] f e=>match ao c id with
  |some ⟨.osl b,i⟩=>some ⟨some (a,.ref a []),[id,a],[],[(a,⟨.osl b,(i.take e).drop f⟩)]⟩
  |_=>none
 |.bP (.slice none 0 0)=>match ao d a with
  |some (.osl b)=>some ⟨some (a,.ref a []),[a],[],[(a,⟨.osl b,[]⟩)]⟩
  |_=>none
 |_=>none
theorem RQ (a:nS k i.h b d=some p) (e:u (p.app i)):(yC k i b d).K u:=by
 unfold nS at a;unfold yC;split at a
 ·split at a
  ·rename_i j c;cases a;simp only[c];exact e
  cases a
 ·rename_i id g l;cases f:Nat.beq id b with
  |true=>rw[f] at a;cases a
  |false=>
  rw[f] at a;cases a;cases g with
  |nil=>exact(l rfl).elim
  |cons m g=>simp only[f,cond_false];exact e
 ·split at a
  ·rename_i j n c;cases a;simp only[c];exact e
  cases a
 ·split at a
  ·rename_i j c;cases a;simp only[c];exact e
  cases a
 cases a
section
section
variable {E:dW} {C:dn} {st:aJ} {a:Act} {w w':World} {I:Nat->Prop} {rt:Nat->cS} {fp:Nat->cY} {o:Oper} {Q:aJ->Prop}
theorem dm.own {S:cY} {t:aC} {cs:cS} {f:cY} {v:Value} {next:Act->World->Prop} {u:Exit->Act->World->Prop} (A:o.dst=some b) (F:C.ok b) (m:bt C st a.tmps w I rt fp) (J:∀r l w',Q r->l.defers=a.defers->e3 C r l.tmps w'->next l w') (D:b∈S\/ao st.h b=none) (M:(execOp a.eval o).run E.P w=.ok (.value v) w') (e:gq w w') (N:v=bH t.1 cs) (L:aN (ba I C.B) w' t.1 cs t.2 f) (G:f.Nodup) (j:∀c∈f,(w.heap.size<=c/\c<w'.heap.size)\/∃q∈S,∃R,ao st.h q=some R/\c∈fp q) (K:Q ⟨(b,.ref b [])::kill S [] st.g,(b,t)::del S st.h⟩):o.wp E.P a w next u:=by
 have k:=m.eH (lE.one (st:=st) (C:=C) (rt:=rt) (w':=w') (I':=I) (S:=S) (d:=b) (t:=t) (cs:=cs) (f:=f) D e.size e.os e.tape e.output (λc j _=>e.heap c j) (λc j=>(bN.of_heap (e.heap c j)).2) (λ_ i=>i) (λ_ i=>.inl i) L G (λc z=>by
  rcases j c z with⟨x,y⟩|⟨p,H,s,k,n⟩
  ·exact⟨λi=>by have:=m.ib c (.inl i);omega,y,.inl x⟩
  obtain⟨ar,T,O,U⟩:=(m.tree p s k).2.2 c n;exact⟨ar,gO O e.size,.inr ⟨p,H,s,k,n⟩⟩))
 unfold Oper.wp;rw[M];show next (a.put o.dst v) w'
 rw[A];refine J _ _ _ K rfl ⟨_,_,_,k.put F (av:=.ref b []) ?_⟩;rw[N];refine .ref (t:=t) (loc:=none) (by rw[iF,bU,if_pos rfl];rfl) ?_;rw[A5];exact aP.here
def uU (e:List (Nat×aC)) (a:ag):al->Option (aC×cY)
 |.val d b=>bif a2 a d then some (⟨d,b⟩,[]) else none
 |.bP f=>match hf a f.cells.toList with
  |some b=>some (⟨a,b⟩,[])
  |none=>none
 |.ref id []=>match ao e id with
  |some c=>bif a2 a c.1 then some (c,[id]) else none
  |none=>none
 |_=>none
theorem KL {h:c5->Nat->Prop} (n:∀id t,ao e id=some t->aN h w t.1 (rt id) t.2 (fp id)) {a:ag} (k:dF s a c) (j:bE h w e rt fp d G) {t:aC} {ids:cY} (b:uU e a d=some (t,ids)):aN h w t.1 G.cells.toList t.2 (ids.map fp).flatten/\t.1.size=a.size/\∀id∈ids,∃r,ao e id=some r:=by
 unfold uU at b;split at b
 ·rename_i v u;cases f:a2 a v with
  |false=>rw[f] at b;cases b
  |true=>
   rw[f] at b;cases b;cases j with|val g=>
   rw[nm (k.lay f) g.len g.one];exact⟨g,(a2.size f).symm,ab⟩
 ·rename_i y;split at b
  ·rename_i u p;cases b;cases j;exact⟨nX p,rfl,ab⟩
  cases b
 ·rename_i id;split at b
  ·rename_i q i;cases f:a2 a q.1 with
   |false=>rw[f] at b;cases b
   |true=>
    rw[f] at b;cases b;cases j with|ref m o=>
    rw[i] at m;cases m;obtain⟨rfl,rfl,rfl⟩:=aP.eR.1 o;have g:=n id _ i;rw[nm (k.lay f) g.len g.one];refine⟨by simpa using g,(a2.size f).symm,?_⟩;intro x l;rw[dP] at l;subst l;exact⟨_,i⟩
  cases b
 cases b
def lf (e:List (Nat×aC)) (d:Operand->al) (g:List (Nat×Operand)):ag->Nat->Option (aC×cY)
 |.pr a h,f=>
  match(match kq g f with
   |none=>match kw a with
    |some i=>some ((⟨a,i⟩:aC),([]:cY))
    |none=>none
   |some b=>uU e a (d b)),lf e d g h (f+1) with
  |some b,some c=>some (⟨.pr b.1.1 c.1.1,(b.1.2,c.1.2)⟩,b.2++c.2)
  |_,_=>none
 |.nil,_=>some (⟨.nil,()⟩,[])
 |_,_=>none
theorem I7 {F:Program} {g:c5->Nat->Prop} {b:List (Nat×aC)} (B:∀id t,ao b id=some t->aN g w t.1 (rt id) t.2 (fp id)) {v:Operand->al} {l:Operand->Value} (A:∀c,bE g w b rt fp (v c) (l c)) {parts:List (Nat×Operand)} {cells:cS}:∀{u:ag} {n:Nat} {G:List Field} {off:Nat} {zs:cS} {t:aC} {ids:cY},g7 F u G off zs->lf b v parts u n=some (t,ids)->cells.length=off+u.size->(∀d r e,dS u d=some (r,e)->(∀c,kq parts (n+d)=some c->(l c).cells.size=e.size/\(cells.drop (off+dj u d)).take e.size=(l c).cells.toList)/\(kq parts (n+d)=none->(cells.drop (off+dj u d)).take e.size=(zs.drop (dj u d)).take e.size))->aN g w t.1 (cells.drop off) t.2 (ids.map fp).flatten/\t.1.size=u.size/\∀id∈ids,∃u,ao b id=some u
 |.pr a k,n,O::V,off,zs,t,ids,z,f,p,m=>by
  simp only[lf] at f;split at f
  case h_2=>cases f
  rename_i c s i J;cases f;obtain⟨P,x,Q,⟨R,W,ar,M,N⟩,H⟩:=z;have o:=m 0 _ a rfl;simp only[k4,dj,lu] at o;have j:aN g w c.1.1 ((cells.drop off).take a.size) c.1.2 (c.2.map fp).flatten/\c.1.1.size=a.size/\∀id∈c.2,∃u,ao b id=some u:=by
   split at i
   ·rename_i q;split at i
    ·rename_i X K;cases i;obtain⟨S,Y,D,E,_,aL⟩:=s8 x K;rw[ar] at D;cases D;rw[M] at E;cases E;rw[o.2 q,N];exact⟨aL g w,rfl,ab⟩
    cases i
   rename_i C q;obtain⟨T,L⟩:=o.1 C q;rw[L];exact KL B x (A C) i
  have y:=I7 B A (parts:=parts) (cells:=cells) (u:=k) (n:=n+1) (off:=off+a.size) (zs:=zs.drop a.size) (t:=s.1) (ids:=s.2) H J (by rw[p];simp only[ag.size];omega) (by
   intro d r e I;have:=m (d+1) (.snd::r) e (by simp[dS,I]);simp only[dj] at this;rw[(U:n+(d+1)=n+1+d),(U:off+(a.size+dj k d)=off+a.size+dj k d)] at this;rw[nE];exact this)
  refine⟨⟨(c.2.map fp).flatten,(s.2.map fp).flatten,ab,?_,?_⟩,by simp only[ag.size];omega,?_⟩
  ·rw[j.2.1];exact j.1
  ·rw[j.2.1,nE];exact y.1
  intro id h;rcases dO.1 h with h|h
  ·exact j.2.2 id h
  exact y.2.2 id h
 |.nil,n,[],off,zs,t,ids,z,f,p,m=>by cases f;exact⟨⟨rfl,by rw[List.drop_eq_nil_iff];simp only[ag.size] at p;omega⟩,rfl,ab⟩
 |.pr _ _,_,[],_,_,_,_,b,_,_,_=>b.elim
 |.nil,_,_::_,_,_,_,_,b,_,_,_=>b.elim
 |.int _,_,_,_,_,_,_,b,_,_,_=>by cases b
 |.bool,_,_,_,_,_,_,b,_,_,_=>by cases b
 |.str,_,_,_,_,_,_,b,_,_,_=>by cases b
 |.a7 _ _,_,_,_,_,_,_,b,_,_,_=>by cases b
 |.osl _,_,_,_,_,_,_,b,_,_,_=>by cases b
 |.ptr _ _,_,_,_,_,_,_,b,_,_,_=>by cases b
 |.optr _,_,_,_,_,_,_,b,_,_,_=>by cases b
 |.st _,_,_,_,_,_,_,b,_,_,_=>by cases b
 |.c6,_,_,_,_,_,_,b,_,_,_=>by cases b
theorem I8 {z:Program} {h:c5->Nat->Prop} {b:List (Nat×aC)} (l:∀id t,ao b id=some t->aN h w t.1 (rt id) t.2 (fp id)) {j:Operand->al} {i:Operand->Value} (k:∀e,bE h w b rt fp (j e) (i e)) {q:List (Nat×Operand)}:∀{u:ag} {n:Nat} {B:List Field} {p:Nat} {y:cS} {t:aC} {ids:cY},g7 z u B p y->lf b j q u n=some (t,ids)->∀d s g,dS u d=some (s,g)->∀e,kq q (n+d)=some e->(i e).cells.size=g.size
 |.pr a A,n,J::P,p,y,t,ids,E,f,d,s,g,c,e,m=>by
  simp only[lf] at f;split at f
  case h_2=>cases f
  rename_i v x o G;obtain⟨K,C,L,⟨M,Q,ar,N,O⟩,D⟩:=E;cases d with
  |zero=>
   simp only[dS,bI,fd] at c;obtain⟨_,rfl⟩:=c;rw[k4] at m;rw[m] at o;obtain⟨H,I,_⟩:=KL (t:=v.1) (ids:=v.2) l C (k e) o;have:=H.len;rw[I] at this;simpa using this
  |succ d=>
   simp only[dS] at c;split at c
   ·rename_i r F;simp only[bI,fd] at c;obtain⟨_,rfl⟩:=c;exact I8 l k (u:=A) (n:=n+1) (t:=x.1) (ids:=x.2) D G d r.1 r.2 F e (by rwa[(U:n+1+d=n+(d+1))])
   cases c
 |.pr _ _,_,[],_,_,_,_,b,_,_,_,_,_,_,_=>b.elim
 |.nil,_,_,_,_,_,_,_,_,_,_,_,c,_,_=>by cases c
 |.int _,_,_,_,_,_,_,b,_,_,_,_,_,_,_=>by cases b
 |.bool,_,_,_,_,_,_,b,_,_,_,_,_,_,_=>by cases b
 |.str,_,_,_,_,_,_,b,_,_,_,_,_,_,_=>by cases b
 |.a7 _ _,_,_,_,_,_,_,b,_,_,_,_,_,_,_=>by cases b
 |.osl _,_,_,_,_,_,_,b,_,_,_,_,_,_,_=>by cases b
 |.ptr _ _,_,_,_,_,_,_,b,_,_,_,_,_,_,_=>by cases b
 |.optr _,_,_,_,_,_,_,b,_,_,_,_,_,_,_=>by cases b
 |.st _,_,_,_,_,_,_,b,_,_,_,_,_,_,_=>by cases b
 |.c6,_,_,_,_,_,_,b,_,_,_,_,_,_,_=>by cases b
theorem Sb (ce:o.op=.build c r) (D:jX E.tt c=some x) (F:a2 x n=true\/x=n) (M:kO r.toList 0=true) (C:∀e∈r.toList,Nat.blt e.1 (eQ n)=true) (S:∀f l b,dS n f=some (l,b)->∀g,kq r.toList f=some g->(a.eval g).cells.size=b.size):∃i h p,g7 E.P n i 0 h/\(execOp a.eval o).run E.P w=.ok (.value (.agg p)) w/\p.toList.length=n.size/\(∀f l b,dS n f=some (l,b)->(∀g,kq r.toList (0+f)=some g->(a.eval g).cells.size=b.size/\(p.toList.drop (0+dj n f)).take b.size=(a.eval g).cells.toList)/\(kq r.toList (0+f)=none->(p.toList.drop (0+dj n f)).take b.size=(h.drop (dj n f)).take b.size)):=by
 obtain⟨j,i,h,am,d6,an,ap,q,Q⟩:∃j i h,E.P.info? c=some j/\j.size=n.size/\j.zero=some (.agg h)/\E.P.underlying c=some (.struct i)/\g7 E.P n i.toList 0 h.toList/\h.size=n.size:=by
  unfold jX at D;split at D
  ·rename_i eq a0;cases D;obtain⟨_,j,i,h,ar,W,_,X,Y,Z,ad⟩:=E.ok c _ a0;rcases F with F|rfl
   ·have d:=a2.size F;exact⟨j,i,h,ar,by rw[<-d];exact W,X,Y,g7.lay F Z,by rw[<-d];exact ad⟩
   exact⟨j,i,h,ar,W,X,Y,Z,ad⟩
  cases D
 have H:=run_places (P:=E.P) w n i.toList 0 h.toList q;simp only[hX] at H;generalize co:((List.range (eQ n)).map λm=>(dj n m,match dS n m with|some e=>e.2.size|none=>0))=J at H;have y:∀m l b,dS n m=some (l,b)->m<eQ n->J.toArray[m]?=some (dj n m,b.size):=(by intro m l b d bl;rw[<-co];simp[bl,d]);obtain⟨p,d0,d1,d2,aL⟩:=wU (λj=>J.toArray[j]?) (r.toList.map λe=>(e.1,a.eval e.2)) h (by
  intro e z;obtain⟨k,v,rfl⟩:=bR.1 z;have u:k.1<eQ n:=eM (C k v);obtain⟨l,b,d⟩:=pk q k.1 u;refine⟨_,_,y _ _ _ d u,S _ _ _ d k.2 ?_,by rw[Q];exact ur d⟩;exact DK M v) (by
  rw[tp];refine(DL M).imp_of_mem ?_;intro e K z cv u ds d3 d8 d9 aj N;have B:e.1<eQ n:=eM (C e z);have V:K.1<eQ n:=eM (C K cv);obtain⟨d4,d5,s⟩:=pk q e.1 B;obtain⟨el,em,R⟩:=pk q K.1 V;rw[y _ _ _ s B] at aj;rw[y _ _ _ R V] at N;cases aj;cases N;exact .inl (sn s R u))
 have dl:p.toList.length=n.size:=(by simp[d1,Q]);refine⟨i.toList,h.toList,p,q,?_,dl,?_⟩
 ·have cs:(Array.map (λg=>(g.fst,a.eval g.snd)) r).toList=r.toList.map λe=>(e.1,a.eval e.2):=ab;have ci:(i.mapM λO=>do Pure.pure (O.offset,<-sizeOf O.type):Sem (Array cI)).run E.P w=.ok J.toArray w:=by
   rw[Array.mapM_eq_mapM_toList,Sem.run_map,H];rfl
  have I:(zeroValue c).run E.P w=.ok (.agg h) w:=(by simp[zeroValue,typeInfo,am,an]);simp only[execOp,ce,Instr.build,Sem.run_bind,I,run_underlying ap,Result.andThen_ok,ci,cs,Value.cells,d0];rfl
 intro f l b d;have a3:f<eQ n:=Dw d;simp only[hX];have d7:=ur d;refine⟨λg G=>?_,λG=>?_⟩
 ·have a4:=w9 G;have I:=S f l b d g G;refine⟨I,?_⟩;apply g9;intro A;rcases bp A b.size with t|t
  ·obtain⟨L,T⟩:∃L,(a.eval g).cells[A]?=some L:=⟨_,vg U⟩;have:=aL (f,a.eval g) (bR.2 ⟨(f,g),a4,rfl⟩) _ _ (y _ _ _ d a3) A L T;rw[k1 t,ke];simp only[s9];rw[this,T]
  rw[fc (by simp;omega),fc (by simp;omega)]
 apply g9;intro A;rcases bp A b.size with t|t
 ·rw[k1 t,k1 t,ke,ke];simp only[s9];refine d2 _ ?_;intro e z ds d3 aj;obtain⟨k,v,rfl⟩:=bR.1 z;have bs:=D2 G k v;have B:k.1<eQ n:=eM (C k v);obtain⟨d4,d5,s⟩:=pk q k.1 B;rw[y _ _ _ s B] at aj;cases aj;rcases Nat.lt_or_gt_of_ne bs with u|av
  ·have:=sn s d u;omega
  have:=sn d s av;omega
 rw[fc (by simp;omega),fc (by simp;omega)]
theorem bt.Dz {u:cQ} (d:bt C st u w I rt fp):∀{a:cY},a.Nodup->(∀id∈a,∃b,ao st.h id=some b)->(a.map fp).flatten.Nodup
 |[],_,_=>by simp
 |i::a,s,e=>by obtain⟨l,m⟩:=je.1 s;obtain⟨b,g⟩:=e i ab;simp only[ep,iu];refine hF.2 ⟨(d.tree i b g).2.1,bt.Dz d m (λid q=>e id (by simp[q])),λk n x p c=>?_⟩;subst c;obtain⟨y,r,o⟩:=iv.1 p;obtain⟨j,f,rfl⟩:=bR.1 r;obtain⟨v,t⟩:=e j (by simp[f]);exact d.dis i j b v g t (λc=>l (c▸f)) k n o
theorem D8 (a:b∈(g.map fp).flatten):∃id∈g,b∈fp id:=by obtain⟨h,e,c⟩:=iv.1 a;obtain⟨f,d,rfl⟩:=bR.1 e;exact⟨f,d,c⟩
def p8 {k:Type} (tt:List (TypeId×ag)) (m:List (Nat×ag)) (e:List (Nat×aC)) (h:Operand->al) (a:Nat) (l:TypeId) (c:List (Nat×Operand)) (g:bm->Option k):Option k:=
 match jX tt l with
 |none=>none
 |some f=>match ao m a with
  |some (.st j)=>bif a2 f j&&(kO c 0&&c.all (λi=>Nat.blt i.1 (eQ j))) then match ao e a,lf e h c j 0 with
   |none,some (b,d)=>bif hM d then g ⟨some (a,.ref a []),d,[],[(a,⟨.st b.1,b.2⟩)]⟩ else none
   |_,_=>none
   else none
  |_=>bif kO c 0&&c.all (λi=>Nat.blt i.1 (eQ f)) then match oa h c f 0 with
   |some b=>g ⟨some (a,.val (.st b.1) b.2),[],[],[]⟩
   |none=>match ao e a,lf e h c f 0 with
    |none,some (b,d)=>bif hM d then g ⟨some (a,.ref a []),d,[],[(a,⟨.st b.1,b.2⟩)]⟩ else none
    |_,_=>none
   else none
theorem G0 {J:Type} {G:J} {s:bm->Option J} (W:o.op=.build c r) (P:o.dst=some b) (R:C.ok b) (z:jX E.tt c=some x) (F:a2 x n=true\/x=n) (j:(kO r.toList 0&&r.toList.all (λp=>Nat.blt p.1 (eQ n)))=true) (i:(match ao st.h b,lf st.h (aO st.g) r.toList n 0 with
  |none,some (d,e)=>bif hM e then s ⟨some (b,.ref b []),e,[],[(b,⟨.st d.1,d.2⟩)]⟩ else none
  |_,_=>none)=some G)
 (X:∀u,s u=some G->Q (u.app st)):dm E C o st Q:=by
 split at i
 case h_2=>cases i
 rename_i d e T m;cases q:hM e with
 |false=>rw[q] at i;cases i
 |true=>
 rw[q] at i;simp only[bd,eI] at j;obtain⟨K,L⟩:=j;rintro a w ⟨I,rt,fp,k⟩ next a0 V
 have A:∀id d,ao st.h id=some d->aN (ba I C.B) w d.1 (rt id) d.2 (fp id):=λid d m=>(k.tree id d m).1;obtain⟨M,ap,H,N,Y,bs,O⟩:=Sb (a:=a) (w:=w) W z F K L (by
  obtain⟨M,ap,_,p⟩:=jX.ok z;intro am an av Z l bl;exact I8 A (λl=>k.aO l) (F.elim (λi=>g7.lay i p) (λi=>i▸p)) m am an av Z l (by rwa[hX]))
 obtain⟨v,a4,y⟩:=I7 A (λl=>k.aO l) (cells:=H.toList) N m U O;rw[lu] at v;refine dm.own (S:=e) (t:=⟨.st d.1,d.2⟩) (cs:=H.toList) (f:=(e.map fp).flatten) P R k V (.inr T) Y (gq.refl w) rfl v (k.Dz (hM.ok q) y) (λa3 j=>?_) ?_
 ·obtain⟨id,D,j⟩:=D8 j;obtain⟨n,ad⟩:=y id D;exact .inr ⟨id,D,n,ad,j⟩
 have:=X _ i;rw[show(bm.mk (some (b,.ref b [])) e [] [(b,⟨.st d.1,d.2⟩)]).app st=⟨(b,.ref b [])::kill e [] st.g,(b,⟨.st d.1,d.2⟩)::del e st.h⟩ by
  show aJ.mk ((b,_)::lL e [] st.g) ([_]++o6 e st.h)=_;rw[n7,sa];rfl] at this
 exact this
theorem R1 {v:Type} {s:v} {p:bm->Option v} (l:o.op=.build c r) (i:o.dst=some b) (j:C.ok b) (a:p8 E.tt k st.h (aO st.g) b c r.toList p=some s) (m:∀q,p q=some s->Q (q.app st)):dm E C o st Q:=by
 unfold p8 at a;split at a
 ·cases a
 rename_i t e;split at a
 ·rename_i u x;cases d:(a2 t u&&(kO r.toList 0&&r.toList.all (λn=>Nat.blt n.1 (eQ u)))) with
  |false=>rw[d] at a;cases a
  |true=>
  rw[d] at a;simp only[cond_true] at a;have f:=d;rw[bd] at f;exact G0 l i j e (.inl f.1) f.2 a m
 cases d:(kO r.toList 0&&r.toList.all (λn=>Nat.blt n.1 (eQ t))) with
 |false=>rw[d] at a;cases a
 |true=>
 rw[d] at a;simp only[cond_true] at a;split at a
 ·rename_i y w;refine dm.eval (an:=[]) i j ?_;rw[l];simp only[e7,vG,e,d,cond_true,w];exact m _ a
 exact G0 l i j e (.inr rfl) d a m
def rM {h:Type} (tt:List (TypeId×ag)) (j:List (Nat×ag)) (f:List (Nat×aC)) (a:Nat) (i:TypeId) (b:al) (c:bm->Option h):Option h:=
 match ao tt i,ao f a with
 |some g,none=>match b with
  |.val e b=>bif a2 g e then match ao j a with
   |some (.ptr .bA _)=>c ⟨some (a,.val (.ptr .bA e) (some b)),[],[],[]⟩
   |_=>c ⟨some (a,.ref a []),[],[],[(a,⟨.optr e,b⟩)]⟩
   else none
  |.ref id []=>match ao f id with
   |some d=>bif a2 g d.1 then c ⟨some (a,.ref a []),[id],[],[(a,⟨.optr d.1,d.2⟩)]⟩ else none
   |none=>none
  |_=>none
 |_,_=>none
theorem R4 {am:Type} {Y:am} {R:bm->Option am} (M:o.op=.box c m) (G:o.dst=some b) (H:C.ok b) (e:rM E.tt k st.h b c (aO st.g m) R=some Y) (N:∀U,R U=some Y->Q (U.app st)):dm E C o st Q:=by
 unfold rM at e;split at e
 case h_2=>cases e
 rename_i y F V;split at e
 ·rename_i D ad r;cases d:a2 y D with
  |false=>rw[d] at e;cases e
  |true=>
  rw[d] at e;simp only[cond_true] at e;split at e
  ·rintro a w ⟨I,rt,fp,l⟩ next ap L
   have n:=l.aO m;rw[r] at n;have J:=(E.ok c y F).lay d;generalize P:a.eval m=A at n;cases n with|val u=>
   rename_i z;have s:∀p i,ba I C.B p i->bN w (w.alloc (.cells z.toArray c)) i:=λp i d=>.of_heap ((gq.alloc w _).heap i (l.ib i (lN d)));have ce:Yields E C st a w I rt fp o (λT X=>Q ⟨(b,T)::st.g,X++st.h⟩):=by
    refine⟨.pointer (some ⟨w.heap.size,0,none⟩),w.alloc (.cells z.toArray c),λi=>I i\/i=w.heap.size,λ_=>[],λ_=>[],.val (.ptr .bA D) (some ad),[],?_,gq.alloc w _,λ_ e=>.inl e,?_,.nil,?_,N _ e⟩
    ·simp[execOp,M,P,Instr.box,newVar,newRow,nm J u.len u.one]
    ·rintro i (e|rfl)
     ·exact .inl e
     exact .inr ⟨a8 _,ab⟩
    refine .val (τ:=.ptr .bA D) (x:=some ad) (cs:=[.pointer (some ⟨w.heap.size,0,none⟩)]) ⟨rfl,w.heap.size,0,z,rfl,.inr rfl,u.len,dK.alloc (λci A K=>by simpa using K),?_⟩;refine u.mono (λp i d=>⟨?_,s p i d⟩) ab;cases p
    ·exact .inl d
    exact d.imp .inl (λe=>e)
   exact ce.wp l G H (λT X av w' bl a0 bs=>L _ av w' bl a0 bs)
  refine dm.eval (an:=[]) G H ?_;rw[M];simp only[e7,vH,F,V,r,d,cond_true];exact N _ e
 ·rename_i id r;split at e
  case h_2=>cases e
  rename_i j O;cases d:a2 y j.1 with
  |false=>rw[d] at e;cases e
  |true=>
  rw[d] at e;rintro a w ⟨I,rt,fp,l⟩ next ap L
  have n:=l.aO m;rw[r] at n;obtain⟨q,cv,Z⟩:=l.tree id j O;have J:=(E.ok c y F).lay d;generalize P:a.eval m=A at n;cases n with|ref W a4=>
  rw[O] at W;cases W;obtain⟨rfl,rfl,rfl⟩:=aP.eR.1 a4;have s:∀i,i<w.heap.size->bN w (w.alloc (.cells (rt id).toArray c)) i:=λi d=>.of_heap ((gq.alloc w _).heap i d);have co:aN (ba I C.B) (w.alloc (.cells (rt id).toArray c)) j.1 (rt id) j.2 (fp id):=q.mono (λp i d=>⟨d,s i (l.ib i (lN d))⟩) (λi d=>s i (Z i d).2.2.1);refine dm.own (S:=[id]) (t:=⟨.optr j.1,j.2⟩) (cs:=[.pointer (some ⟨w.heap.size,0,none⟩)]) (f:=w.heap.size::fp id) (v:=.pointer (some ⟨w.heap.size,0,none⟩)) (w':=w.alloc (.cells (rt id).toArray c)) G H l L (.inr V) ?_ (gq.alloc w _) rfl ⟨w.heap.size,0,fp id,rt id,rfl,rfl,q.len,dK.alloc (λci A K=>by simpa using K),hE.alloc (by simp[q.len]),co⟩ (je.2 ⟨λa3=>Nat.lt_irrefl _ (Z _ a3).2.2.1,cv⟩) ?_ ?_
  ·simp[execOp,M,P,Instr.box,newVar,newRow,nm J q.len q.one]
  ·intro i d;rcases dh.1 d with rfl|d
   ·exact .inl ⟨a8 _,ab⟩
   exact .inr ⟨id,ab,j,O,d⟩
  have:=N _ e;rw[show(bm.mk (some (b,.ref b [])) [id] [] [(b,⟨.optr j.1,j.2⟩)]).app st=⟨(b,.ref b [])::kill [id] [] st.g,(b,⟨.optr j.1,j.2⟩)::del [id] st.h⟩ from rfl] at this;exact this
 cases e
def rO (c:List (Nat×aC)) (a:ag) (x:al):Option (a.den×cY):=
 match x with
 |.ref id []=>match ao c id with
  |some d=>match gA a d.2 with
   |some b=>some (b,[id])
   |none=>none
  |none=>none
 |x=>match coe a x with
  |some b=>some (b,[])
  |none=>none
def rP (b:List (Nat×aC)) (a:ag):List al->Option (List a.den×cN)
 |[]=>some ([],[])
 |x::e=>match rO b a x,rP b a e with
  |some d,some c=>some (d.1::c.1,d.2::c.2)
  |_,_=>none
theorem Su {b:c5->Nat->Prop} (q:∀id n,ao e id=some n->aN b w n.1 (rt id) n.2 (fp id)) (j:dF E.P n c) (m:bE b w e rt fp d G) {o:n.den} (a:rO e n d=some (o,g)):aN b w n G.cells.toList o (g.map fp).flatten/\∀id∈g,∃s,ao e id=some s:=by
 unfold rO at a;split at a
 ·rename_i id;split at a
  case h_2=>cases a
  rename_i u f;split at a
  case h_2=>cases a
  rename_i t h;cases a;obtain⟨x,d⟩:=u;have p:=iR h;cases p;cases m with|ref l r=>
  rw[f] at l;cases l;obtain⟨rfl,rfl,rfl⟩:=aP.eR.1 r;have i:=q id _ f;rw[nm j i.len i.one];refine⟨by simpa using i,λv k=>?_⟩;rw[dP] at k;subst k;exact⟨_,f⟩
 split at a
 ·rename_i t h;cases a;exact⟨CJ j m h,ab⟩
 cases a
theorem Hc {e:List (Nat×aC)} {f:ag}:∀{c:List al} {xs:List f.den} {is:cN},rP e f c=some (xs,is)->xs.length=c.length/\is.length=c.length/\∀(a:Nat) (d:f.den),xs[a]?=some d->∃(y:al) (h:cY),c[a]?=some y/\is[a]?=some h/\rO e f y=some (d,h)
 |[],xs,is,b=>by cases b;exact⟨rfl,rfl,λa d e=>by simp at e⟩
 |y::c,xs,is,b=>by
  simp only[rP] at b;split at b
  ·rename_i o i n m;cases b;obtain⟨j,k,l⟩:=Hc (xs:=i.1) (is:=i.2) m;refine⟨by simp[j],by simp[k],λa d g=>?_⟩;cases a with
   |zero=>simp only[iL,bI] at g;subst g;exact⟨y,o.2,rfl,rfl,n⟩
   |succ a=>simpa using l a d (by simpa using g)
  cases b
def qa {i:Type} (tt:List (TypeId×ag)) (k:List (Nat×ag)) (f:List (Nat×aC)) (e:Operand->al) (a:Nat) (j:TypeId) (g:Nat) (c:List (Nat×Operand)) (d:bm->Option i):Option i:=
 match eY tt j,ao f a with
 |some h,none=>
  match(match ao k a with|some (.osl t)=>t|_=>h) with
  |t=>bif a2 h t&&Nat.ble t.size 2000&&Nat.ble g 1000&&sX c 0&&Nat.beq c.length g then
   match vL t (c.map λb=>e b.2) with
   |some l=>d ⟨some (a,.ref a []),[],[],[(a,⟨.osl t,l⟩)]⟩
   |none=>match rP f t (c.map λb=>e b.2) with
    |some b=>bif hM b.2.flatten then d ⟨some (a,.ref a []),b.2.flatten,[],[(a,⟨.osl t,b.1⟩)]⟩ else none
    |none=>none
  else none
 |_,_=>none
theorem R8 {eq:Type} {d9:eq} {a0:bm->Option eq} (d0:o.op=.buildSlice c b r) (ci:o.dst=some l) (co:C.ok l) (j:qa E.tt k st.h (aO st.g) l c b r.toList a0=some d9) (N:∀y,a0 y=some d9->Q (y.app st)):dm E C o st Q:=by
 unfold qa at j;split at j
 case h_2=>cases j
 rename_i p ce cv;generalize F:(match ao k l with|some (.osl e)=>e|_=>p)=e at j;simp only at j;cases i:(a2 p e&&Nat.ble e.size 2000&&Nat.ble b 1000&&sX r.toList 0&&Nat.beq r.toList.length b) with
 |false=>rw[i] at j;cases j
 |true=>
 rw[i] at j;simp only[cond_true] at j;split at j
 ·rename_i u d5;refine dm.eval (an:=k) ci co ?_;rw[d0];simp only[e7,tI,ce,cv];cases K:ao k l with
  |none=>
   rw[K] at F;simp only at F;subst F;simp only[i,cond_true,d5];exact N _ j
  |some n=>
   rw[K] at F;cases n<;>(simp only at F;subst F;simp only[i,cond_true,d5];exact N _ j)
 split at j
 case h_2=>cases j
 rename_i n d2;obtain⟨u,q⟩:=n;cases W:hM q.flatten with
 |false=>rw[W] at j;cases j
 |true=>
 rw[W] at j;rintro a w ⟨I,rt,fp,H⟩ next hv ge
 have f3:∀id e,ao st.h id=some e->aN (ba I C.B) w e.1 (rt id) e.2 (fp id):=λid e F=>(H.tree id e F).1;simp only[bd] at i;obtain⟨⟨⟨⟨fn,Z⟩,ad⟩,R⟩,a3⟩:=i;have Z:=eM Z;have ad:=eM ad;have a3:r.toList.length=b:=er a3;obtain⟨d7,Y,_,fT,f0⟩:=eY.ok ce;have M:=f0.lay fn;obtain⟨ap,hw,d8,_⟩:=M.info;have is:=M.pos;obtain⟨fs,a4,bl⟩:=Hc d2;simp only[fL] at fs a4;have go:u.length=b:=U;have ii:b*e.size<=16777216:=(by have:b*e.size<=1000*2000:=ia ad Z;omega);have V:∀(d:Nat) (n:Nat×Operand),r.toList[d]?=some n->∃(z:e.den) (s:cY),u[d]?=some z/\q[d]?=some s/\aN (ba I C.B) w e (a.eval n.2).cells.toList z (s.map fp).flatten/\∀id∈s,∃p,ao st.h id=some p:=(by intro d n D;have f9:d<u.length:=(by have:=(eb.1 D).1;omega);obtain⟨k0,s,aj,ft,T⟩:=bl d u[d] ab;rw[eS,D] at aj;simp only[fB,bI] at aj;subst aj;obtain⟨hi,hr⟩:=Su f3 M (H.aO n.2) T;exact⟨u[d],s,ab,ft,hi,hr⟩);have am:∀id∈q.flatten,∃p,ao st.h id=some p:=by
  intro id A;obtain⟨O,K,f5⟩:=iv.1 A;obtain⟨d,D,rfl⟩:=ha.1 K;have J:r.toList[d]?=some (r.toList[d]'(by omega)):=bo _
  obtain⟨z,s,_,y,_,x⟩:=V d _ J;rw[bo D] at y;cases y;exact x id f5
 obtain⟨d6,f6,f7⟩:∃em:cQ,(b*e.size=0->em=#[])/\(b*e.size≠0->∃L,(zeroValue Y).run E.P w=.ok L w/\em=L.cells):=by
  by_cases G:b*e.size=0
  ·exact⟨#[],λ_=>rfl,λj=>absurd G j⟩
  obtain⟨L,_,gt⟩:=dF.DF M;exact⟨L.cells,λj=>absurd j G,λ_=>⟨L,by simp[zeroValue,typeInfo,d8.info,gt ap d8.info],rfl⟩⟩
 obtain⟨av,el,hs,i8,aL⟩:=wU (λap=>some (ap*e.size,e.size)) (r.toList.map λn=>(n.1,a.eval n.2)) ((Array.range (b*e.size)).map (d6[· %d6.size]!)) (by
  intro n N;obtain⟨i3,gf,rfl⟩:=bR.1 N;obtain⟨d,D,rfl⟩:=ha.1 gf;have J:r.toList[d]?=some r.toList[d]:=ab;obtain⟨z,_,_,_,X,_⟩:=V d _ J;have y:=pv R d _ J;have:(d+1)*e.size<=b*e.size:=gv _ U;rw[eL,gw] at this;refine⟨_,_,rfl,by have:=X.len;simpa using this,?_⟩;simp only[Array.size_map,Array.size_range];rw[y,hX];exact this) (by
  rw[gu];intro d O D K f9 i1 jp i2 kd aj T;simp only[List.getElem_map,bI,fd] at aj T;simp only[fL] at D K;have fz:=pv R d r.toList[d] ab;have f2:=pv R O r.toList[O] ab;obtain⟨rfl,rfl⟩:=aj;obtain⟨rfl,rfl⟩:=T;left;rw[fz,f2];have:(0+d+1)*e.size<=(0+O)*e.size:=gv _ U;rw[eL,gw] at this;exact this)
 have gi:av.size=b*e.size:=(by rw[hs];simp);have bs:∀m,m<w.heap.size->bN w (w.alloc (.cells av Y)) m:=λm i=>.of_heap ((gq.alloc w _).heap m i);have f1:(q.map λs=>(s.map fp).flatten).flatten=(q.flatten.map fp).flatten:=by
  clear V am bl W j d2 a4
  induction q with
  |nil=>rfl
  |cons z O hc=>simp only[ep,iu,hc,gb,oF]
 have ds:∀m∈(q.flatten.map fp).flatten,m<w.heap.size/\∃id∈q.flatten,∃p,ao st.h id=some p/\m∈fp id:=(by intro m i;obtain⟨id,A,i⟩:=D8 i;obtain⟨p,x⟩:=am id A;exact⟨((H.tree id p x).2.2 m i).2.2.1,id,A,p,x,i⟩);refine dm.own (S:=q.flatten) (t:=⟨.osl e,u⟩) (cs:=[.slice (some ⟨w.heap.size,0,none⟩) b b]) (f:=w.heap.size::(q.flatten.map fp).flatten) (v:=.slice (some ⟨w.heap.size,0,none⟩) b b) (w':=w.alloc (.cells av Y)) ci co H ge (.inr cv) ?_ (gq.alloc w _) rfl ?_ (je.2 ⟨λgc=>Nat.lt_irrefl _ (ds _ gc).1,H.Dz (hM.ok W) am⟩) ?_ ?_
 ·have gl:=M.sizeOf w;have io:¬(16777216<b*e.size):=U;have d1:(Array.map (λz=>(z.fst,a.eval z.snd)) r).toList=r.toList.map λn=>(n.1,a.eval n.2):=ab;simp only[execOp,d0,Instr.buildSlice,Sem.run_bind,run_underlying fT,Result.andThen_ok,gl];rw[if_neg U];by_cases G:b*e.size=0
  ·rw[if_pos G];obtain rfl:=f6 G;rw[d1];simp only[Sem.run_bind,Sem.run_pure,Result.andThen_ok,el,newRow,newObj];rfl
  rw[if_neg G];obtain⟨L,gs,rfl⟩:=f7 G;rw[d1];simp only[Sem.run_bind,Sem.run_pure,Result.andThen_ok,gs,el,newRow,newObj];rfl
 ·refine⟨some ⟨w.heap.size,0,none⟩,b,by rw[go],.inr ⟨w.heap.size,0,q.map λs=>(s.map fp).flatten,rfl,by rw[f1],by simp;omega,(by show u.length<=b;omega),hE.alloc (by rw[gi];omega),λd z ic X dl=>?_⟩⟩;have D:d<b:=(by have:d<u.length:=(eb.1 X).1;omega);have J:r.toList[d]?=some (r.toList[d]'(by omega)):=by simp
  obtain⟨kg,s,d4,f4,d3,x⟩:=V d _ J;rw[X] at d4;obtain rfl:=ec d4;rw[eS,f4] at dl;obtain rfl:=ec dl;refine⟨_,d3.len,dK.alloc (λd7 ex f8=>?_),d3.mono (λi0 m i=>⟨i,bs m (H.ib m (lN i))⟩) (λm i=>?_)⟩
  ·have:=aL (r.toList[d].1,a.eval r.toList[d].2) (bR.2 ⟨r.toList[d],bQ _,rfl⟩) _ _ rfl d7 ex (by simpa using f8);have y:=pv R d _ J;rw[y,hX] at this;simpa using this
  obtain⟨id,A,i⟩:=D8 i;obtain⟨p,x⟩:=x id A;exact bs m ((H.tree id p x).2.2 m i).2.2.1
 ·intro m i;rcases dh.1 i with rfl|i
  ·exact .inl ⟨a8 _,ab⟩
  obtain⟨_,id,A,p,x,i⟩:=ds m i;exact .inr ⟨id,A,p,x,i⟩
 have:=N _ j;rw[show(bm.mk (some (l,.ref l [])) q.flatten [] [(l,⟨.osl e,u⟩)]).app st=⟨(l,.ref l [])::kill q.flatten [] st.g,(l,⟨.osl e,u⟩)::del q.flatten st.h⟩ by
  show aJ.mk ((l,_)::lL _ [] st.g) ([_]++o6 _ st.h)=_;rw[n7,sa];rfl] at this
 exact this
end
end
section
def hj:ag->ag
 |.osl a=>.a7 .bA (hj a)
 |.st a=>.st (hj a)
 |.pr b c=>.pr (hj b) (hj c)
 |.mp a=>.dC .bA a
 |τ=>τ
def qC:ag->Bool
 |.osl a|.st a=>qC a
 |.pr b c=>qC b&&qC c
 |.optr _|.c6=>false
 |_=>true
theorem qE:∀d:ag,(hj d).den=d.den
 |.osl c=>congrArg List (qE c)
 |.st c=>qE c
 |.pr a b=>by show((hj a).den×(hj b).den)=(a.den×b.den);rw[qE a,qE b]
 |.int _|.bool|.str|.a7 _ _|.ptr _ _|.optr _|.nil|.c6|.mp _|.dC _ _=>rfl
def jT (a:ag) (b:a.den):(hj a).den:=cast (qE a).symm b
theorem Se {c:Type} (d:a=c) (e:List a=List c) (b:List a):cast e b=b.map (cast d):=by subst d;show b=b.map (λf=>f);simp
theorem Sf {c C d:Type} (e:a=c) (f:C=d) (g:(a×C)=(c×d)) (b:a×C):cast g b=(cast e b.1,cast f b.2):=by subst e;subst f;rfl
theorem DA (a:ag) (b:List a.den):(jT (.osl a) b:List (hj a).den)=b.map (jT a):=Se (qE a).symm _ b
theorem T0 (a b:ag) (c:a.den×b.den):(jT (.pr a b) c:(hj a).den×(hj b).den)=(jT a c.1,jT b c.2):=Sf (qE a).symm (qE b).symm _ c
theorem sq:∀b:ag,(hj b).size=b.size
 |.osl a=>rfl
 |.st a=>sq a
 |.pr c d=>by simp only[hj,ag.size,sq c,sq d]
 |.int _|.bool|.str|.a7 _ _|.ptr _ _|.optr _|.nil|.c6|.mp _|.dC _ _=>rfl
theorem uY {B u:c5->Nat->Prop} {w:World} (i:∀c a,B c a->u c a):∀{τ:ag} {g:cS} {d:τ.den} {h:cY},qC τ=true->aN B w τ g d h->(∀a∈h,u .bA a)->aN u w (hj τ) g (jT τ d) []
 |.osl f,g,t,h,j,b,k=>by
  obtain⟨l,K,G,b⟩:=b;have s:(jT (.osl f) t:List (hj f).den).length=List.length (α:=f.den) t:=(by rw[DA];simp);rcases b with⟨rfl,E,rfl,rfl⟩|⟨a,R,D,rfl,rfl,r,o,F,A⟩
  ·refine⟨rfl,none,0,by rw[G,s],by rw[s,E];simp,λ_=>rfl,.inl ?_⟩;rw[DA,E];rfl
  refine⟨rfl,_,K,by rw[G,s],by rw[s];exact o,(λb=>by cases b),?_⟩;refine .inr ⟨a,R,rfl,k a ab,λm d q=>?_⟩;rw[DA] at q;have q:(List.map (jT f) t)[m]?=some d:=q;rw[eS] at q;obtain⟨S,H,rfl⟩:=dZ.1 q;have U:m<List.length (α:=f.den) t:=(eb.1 H).1;have O:D[m]?=some (D[m]'(by omega)):=bo _
  obtain⟨z,v,x,y⟩:=A m S _ H O;rw[sq];exact⟨z,v,x,uY i j y (λn p=>k n (e2 _ (iv.2 ⟨_,bQ _,p⟩)))⟩
 |.st f,g,d,h,j,b,k=>uY (τ:=f) i j b k
 |.pr l a,g,d,h,j,b,k=>by
  simp only[qC,bd] at j;obtain⟨T,f2,rfl,r,o⟩:=b;have C:=T0 l a d;refine⟨[],[],rfl,?_,?_⟩
  ·rw[sq];have:=uY i j.1 r (λn p=>k n (by simp[p]));rw[show(jT (.pr l a) d:(hj l).den×(hj a).den).1=jT l d.1 by rw[C]];exact this
  rw[sq];have:=uY i j.2 o (λn p=>k n (by simp[p]));rw[show(jT (.pr l a) d:(hj l).den×(hj a).den).2=jT a d.2 by rw[C]];exact this
 |.int Q,g,d,h,_,b,_=>by obtain rfl:=aN.pure (τ:=.int Q) rfl b;exact b.mono (λc a e=>⟨i c a e,bN.refl _ _⟩) ab
 |.bool,g,d,h,_,b,_=>by obtain rfl:=aN.pure (τ:=.bool) rfl b;exact b.mono (λc a e=>⟨i c a e,bN.refl _ _⟩) ab
 |.str,g,d,h,_,b,_=>by obtain rfl:=aN.pure (τ:=.str) rfl b;exact b.mono (λc a e=>⟨i c a e,bN.refl _ _⟩) ab
 |.a7 c f,g,d,h,_,b,_=>by obtain rfl:=aN.pure (τ:=.a7 c f) rfl b;exact b.mono (λc a e=>⟨i c a e,bN.refl _ _⟩) ab
 |.ptr c f,g,d,h,_,b,_=>by obtain rfl:=aN.pure (τ:=.ptr c f) rfl b;exact b.mono (λc a e=>⟨i c a e,bN.refl _ _⟩) ab
 |.nil,g,d,h,_,b,_=>by obtain rfl:=aN.pure (τ:=.nil) rfl b;exact b.mono (λc a e=>⟨i c a e,bN.refl _ _⟩) ab
 |.optr _,_,_,_,j,_,_=>by cases j
 |.dC c f,g,d,h,_,b,_=>by obtain rfl:=aN.pure (τ:=.dC c f) rfl b;exact b.mono (λc a e=>⟨i c a e,bN.refl _ _⟩) ab
 |.mp f,g,d,h,_,b,k=>by
  cases d with
  |none=>exact⟨rfl,b.2⟩
  |some I=>
   obtain⟨a,L,J,r,o,N,F,A,M⟩:=b;refine⟨a,L,J,r,rfl,N,k a (by rw[o];simp),F,A,λm I P=>?_⟩;obtain⟨z,v,x,y⟩:=M m I P;exact⟨z,v,x,y.mono (λc a e=>⟨i c a e,bN.refl _ _⟩) ab⟩
 |.c6,_,_,_,j,_,_=>by cases j
def pb:aC->al
 |⟨.optr u,x⟩=>.val (.ptr .bA (hj u)) (some (jT u x))
 |⟨a,x⟩=>.val (hj a) (jT a x)
def DB:ag->Bool
 |.optr a=>qC a
 |τ=>qC τ
def ff (c:List (Nat×aC)) (b:cY) (a:al):al:=
 match a with
 |.ref id []=>bif db id b then match ao c id with
  |some d=>pb d
  |none=>.dead else .ref id []
 |a=>bif a.dJ b then .dead else a
theorem ld (c:List (Nat×aC)) (b:cY) (a:al):(∃id d,a=.ref id []/\id∈b/\ao c id=some d/\ff c b a=pb d)\/(ff c b a=.dead/\a.dJ b=true)\/(ff c b a=a/\a.dJ b=false):=by
 have i:∀a:al,ff c b a=(bif a.dJ b then .dead else a)->(∃id d,a=.ref id []/\id∈b/\ao c id=some d/\ff c b a=pb d)\/(ff c b a=.dead/\a.dJ b=true)\/(ff c b a=a/\a.dJ b=false):=by
  intro a f;cases g:a.dJ b with
  |true=>rw[g] at f;exact .inr (.inl ⟨f,rfl⟩)
  |false=>rw[g] at f;exact .inr (.inr ⟨f,rfl⟩)
 cases a with
 |ref id j=>
  cases j with
  |nil=>
   cases e:db id b with
   |true=>
    have g:(al.ref id []).dJ b=true:=(by simp[al.dJ,al.ids,e]);cases h:ao c id with
    |none=>exact .inr (.inl ⟨by simp[ff,e,h],g⟩)
    |some d=>exact .inl ⟨id,d,rfl,ek.1 e,h,by simp[ff,e,h]⟩
   |false=>exact .inr (.inr ⟨by simp[ff,e],by simp[al.dJ,al.ids,e]⟩)
  |cons k j=>exact i _ rfl
 |_=>exact i _ rfl
def g2 (c:List (Nat×aC)) (b:cY):al->al
 |.dw d=>.dw (d.map (ff c b))
 |a=>ff c b a
theorem AH (b:∀a,d≠.dw a):g2 e g d=ff e g d:=by
 cases d with
 |dw a=>exact absurd rfl (b a)
 |_=>rfl
def qD (a:cY) (st:aJ):aJ:=⟨st.g.map λb=>(b.1,g2 st.h a b.2),del a st.h⟩
theorem Ii (c:al->al) (e:c .dead=.dead):∀(d:List (Nat×al)) (b:Nat),gt (d.map λf=>(f.1,c f.2)) b=c (gt d b)
 |[],b=>e.symm
 |(g,a)::d,b=>by
  show gt ((g,c a)::_) b=_;rw[hk,hk];split
  ·rfl
  exact Ii c e d b
theorem AJ (a:cY) (st:aJ) (b:Nat):gt (qD a st).g b=g2 st.h a (gt st.g b):=Ii (g2 st.h a) rfl st.g b
theorem T1 (a:cY) (st:aJ):aO (qD a st).g=λb=>g2 st.h a (aO st.g b):=by
 funext b;cases b with
 |tmp c=>exact AJ a st c
 |const d=>cases d<;>rfl
 |func e=>rfl
 |global f=>rfl
theorem B2 (a:d.dJ g=false) (b:List (Nat×List aV)):dt g b d=d:=by unfold dt;rw[a];rfl
theorem aaU (a:(al.dw L).dJ g=false) (c:d∈L):d.dJ g=false:=by unfold al.dJ at a|-;rw[th] at a|-;intro id f;obtain⟨b,e,rfl⟩:=ha.1 c;exact a id (al.xj (l:=L) (i:=b) (bo e) f)
theorem aaT (b:d.dJ g=false) (a:List (Nat×List aV)):ef g a d=d:=by
 cases d with
 |dw e=>
  simp only[ef];rw[hW (λd c=>B2 (aaU b c) a),List.map_id']
 |_=>exact B2 b a
theorem sp (a:cY) (b:List (Nat×List aV)) (c:aC):ef a b (pb c)=dt a b (pb c):=by unfold pb;split<;>rfl
def vd (a e:al):Prop:=a=.dead\/a=e\/∃b c,a=.dw b/\e=.dw c/\b.length=c.length/\∀(f:Nat) (d g:al),b[f]?=some d->c[f]?=some g->d=.dead\/d=g
section
variable {C:dn} {st:aJ} {G:cQ} {w:World}
theorem bt.freeze (s:bt C st G w A y z) (W:∀id∈D,∃b,ao st.h id=some b/\DB b.1=true):e3 C (qD D st) G w:=by
 have N:=s.eH (S:=D) (keep:=[]) (new:=[]) (rtn:=y) (fpn:=z) (w':=w) (I':=λa=>A a\/∃id∈D,∃b,ao st.h id=some b/\a∈z id) ⟨a8 _,rfl,rfl,rfl,λ_ _ _=>rfl,λ_ _=>.refl _ _,λ_ c=>.inl c,λa c=>c.imp id λ⟨id,ad,b,q,m⟩=>
  ⟨((s.tree id b q).2.2 a m).2.2.1,.inr ⟨id,ad,b,q,m⟩⟩,(λ_ _ c=>by cases c),(λ_ _ _ _ c=>by cases c),(λ_ c=>by cases c),(λ_ c=>by cases c)⟩
 refine⟨_,_,_,{N with tmp:=λo=>?_}⟩;rw[AJ];have n:=s.tmp o;have i:=N.tmp o;rw[show gt (aJ.mk (kill D [] st.g) ([]++del D st.h)).g o=ef D [] (gt st.g o) from m9 _ _ _ _] at i;generalize gt st.g o=j at n i;generalize G.getD o undef=e at n i;have H:∀(j:al) (e:Value),bE (ba A C.B) w st.h y z j e->bE (ba (λa=>A a\/∃id∈D,∃b,ao st.h id=some b/\a∈z id) C.B) w ([]++del D st.h) (dA [] y y) (dA [] z z) (dt D [] j) e->
  bE (ba (λa=>A a\/∃id∈D,∃b,ao st.h id=some b/\a∈z id) C.B) w ([]++del D st.h) (dA [] y y) (dA [] z z) (ff st.h D j) e:=by
  intro j e n i;rcases ld st.h D j with⟨id,b,f,k,l,V⟩|⟨f,_⟩|⟨f,k⟩
  ·rw[V];rw[f] at n;cases n with|ref q an=>
   rw[l] at q;cases q;obtain⟨rfl,rfl,rfl⟩:=aP.eR.1 an;obtain⟨ci,M,K⟩:=W id k;rw[l] at M;cases M;have J:∀t a,ba A C.B t a->ba (λa=>A a\/∃id∈D,∃b,ao st.h id=some b/\a∈z id) C.B t a:=by
    intro t a m;cases t
    ·exact .inl m
    exact m.imp .inl (λc=>c)
   have L:=(s.tree id b l).1;have u:∀a∈z id,ba (λa=>A a\/∃id∈D,∃b,ao st.h id=some b/\a∈z id) C.B .bA a:=λa m=>.inr ⟨id,k,b,l,m⟩;obtain⟨d,r⟩:=b;by_cases v:∃p,d=.optr p
   ·obtain⟨p,rfl⟩:=v;obtain⟨a,E,bl,Q,aj,I,R,T,a4,U⟩:=L;show bE _ _ _ _ _ (.val (.ptr .bA (hj p)) (some (jT p r))) _;have aj:y id=[.pointer (some ⟨a,E,none⟩)]:=aj;rw[aj];refine .val (τ:=.ptr .bA (hj p)) (x:=some (jT p r)) (cs:=[.pointer (some ⟨a,E,none⟩)]) ⟨rfl,a,E,Q,rfl,u a (by rw[I];exact jI ..),by rw[sq];exact R,T,uY J K U (λP X=>u P (by rw[I];exact e2 _ X))⟩
   have av:bH d (y id)=bH (hj d) (y id):=(by cases d<;>rfl);have a0:pb ⟨d,r⟩=.val (hj d) (jT d r):=by cases d<;>first|rfl|exact absurd ⟨_,rfl⟩ v
   have ap:qC d=true:=by cases d<;>first|exact K|exact absurd ⟨_,rfl⟩ v
   rw[a0];show bE _ _ _ _ _ _ (bH d (y id));rw[av];exact .val (uY J ap L u)
  ·rw[f];exact .dead _
  rw[f];rw[B2 k] at i;exact i
 cases j with
 |dw ce=>
  cases n with|dw am Y=>
  cases i with|dw bs Z=>
  refine .dw (by simp[am]) (λO a3 e f k=>?_);rw[eS] at f;obtain⟨F,l,rfl⟩:=dZ.1 f;exact H F e (Y O F e l k) (Z O _ e (by rw[eS,l];rfl) k)
 |_=>exact H _ _ n i
theorem e3.IM (y:e3 C st G w) (E:∀b,vd (gt i.g b) (gt st.g b)) (k:∀id,ao i.h id=ao st.h id):e3 C i G w:=by
 obtain⟨o,q,p,e⟩:=y;refine⟨o,q,p,{e with tree:=λid j m=>e.tree id j (by rw[<-k];exact m),dis:=λf K j M H I=>e.dis f K j M (by rw[<-k];exact H) (by rw[<-k];exact I),tmp:=λb=>?_}⟩;have t:∀(d:al) (c:Value),bE (ba o C.B) w st.h q p d c->bE (ba o C.B) w i.h q p d c:=λd c A=>
  A.qW (λP N D=>⟨D,bN.refl _ _⟩) (λid _ j m=>⟨by rw[k];exact m,rfl,rfl,(e.tree id j m).1,λ_ _=>bN.refl _ _⟩)
 have l:=e.tmp b;rcases E b with a|a|⟨O,L,aj,u,v,x⟩
 ·rw[a];exact .dead _
 ·rw[a];exact t _ _ l
 rw[aj];rw[u] at l;generalize G.getD b undef=c at l;cases l with|dw J F=>
 refine .dw (v.trans J) (λf d c r z=>?_);obtain⟨n,s⟩:∃n,L[f]?=some n:=(by have:=(eb.1 r).1;exact⟨_,bo U⟩);rcases x f d n r s with a|a
 ·rw[a];exact .dead _
 rw[a];exact t _ _ (F f n c s z)
theorem e3.less (b:e3 C st G w) (c:∀a,gt i.g a=.dead\/gt i.g a=gt st.g a) (d:∀id,ao i.h id=ao st.h id):e3 C i G w:=
 b.IM (λa=>(c a).imp id .inl) d
end
def pD:Op->List Operand
 |.build _ c=>c.toList.map (·.2)
 |.buildSlice _ _ c=>c.toList.map (·.2)
 |.store _ _ a=>[a]
 |.mapUpdate _ _ _ a=>[a]
 |.insert _ _ _ a=>[a]
 |.entryStore _ _ _ a=>[a]
 |.box _ a=>[a]
 |.assign a=>[a]
 |.call b=>match b.callee with
  |.value _=>b.args.toList
  |.builtin .append=>b.args.toList.drop 1
  |_=>[]
 |_=>[]
def so (b:Oper):Nat:=match b.dst with
 |some a=>a
 |none=>999999
def kL (a:c0) (c:Nat) (b:Operand->al):List Operand->cY
 |[]=>[]
 |x::d=>match b x with
  |.ref id []=>bif a.any (λe=>Nat.beq e.1 c&&Nat.beq e.2 id) then id::kL a c b d else kL a c b d
  |_=>kL a c b d
end
section
theorem CO {c d:List a} (e:l<=b) (f:b<=c.length):(jP c d l b).length=c.length:=by unfold jP;simp only[lA,dX,kC];omega
theorem Hk {d e:List a} (i:b<=l) (j:l<=d.length) (c:Nat):(jP d e b l)[c]?=if b<=c/\c<b+min e.length (l-b) then e[c-b]? else d[c]?:=by
 unfold jP;rw[List.getElem?_append];simp only[dX];rcases bp c b with f|f
 ·rw[if_pos U,if_neg U,k1 f]
 rw[if_neg U,List.getElem?_append];simp only[dX];have g:c-min b d.length=c-b:=U;rw[g];by_cases h:c<b+min e.length (l-b)
 ·rw[if_pos U,if_pos ⟨f,h⟩,k1 U]
 rw[if_neg U,if_neg U,ke];congr 1;omega
def oT {k:Type} (tt:List (TypeId×ag)) (d:List (Nat×aC)) (f:Nat) (l:TypeId) (m j:al) (e:bm->Option k):Option k:=
 match eY tt l with
 |none=>none
 |some i=>match m with
  |.ref id []=>match ao d id with
   |some ⟨.osl a,b⟩=>bif a2 i a&&Nat.beq a.size 1&&a.pure then
    (jA d a j).bind λc=>e ⟨some (f,.val (.int .i64) ((min c.length (b.length-0):Nat):Int)),[id],[(id,[])],[(id,⟨.osl a,jP b c 0 b.length⟩)]⟩
    else none
   |_=>none
  |.view id [] h g=>match ao d id with
   |some ⟨.osl a,b⟩=>bif a2 i a&&Nat.beq a.size 1&&a.pure then
    (jA d a j).bind λc=>e ⟨some (f,.val (.int .i64) ((min c.length (g-h):Nat):Int)),[id],[(id,[])],[(id,⟨.osl a,jP b c h g⟩)]⟩
    else none
   |_=>none
  |_=>none
theorem bm.RM {st:aJ}:(bm.mk (some (b,d)) D f e).app st=⟨(b,d)::kill D f st.g,e++del D st.h⟩:=by show aJ.mk ((b,d)::lL D f st.g) (e++o6 D st.h)=_;rw[n7,sa]
section
variable {E:dW} {C:dn} {st:aJ} {a:Act} {w:World} {I:Nat->Prop} {rt:Nat->cS} {fp:Nat->cY} {o:Oper}
theorem FF (e:bt C st a.tmps w I rt fp) {b:List n.den} (c:jA st.h n (aO st.g m)=some b):vC I C.B w n (a.eval m) b:=by
 refine s5 e ?_;have:=x8 c;generalize pG st.h n (aO st.g m)=i at this;cases i with
 |dv k=>exact this.symm
 |part l o j=>obtain⟨f,d,rfl⟩:=this;exact⟨f,d,rfl⟩
 |bad=>exact this.elim
theorem CN (ds:bt C st a.tmps w I rt fp) {f9:Type} {f5:f9} {d7:bm->Option f9} {d6:Operand} (i1:o.op=.call {callee:=.builtin .copy,args:=#[m,d6],argTypes:=#[c,q]}) (Z:o.dst=some W) (hi:C.ok W) {next:Act->World->Prop} {d9:Exit->Act->World->Prop} (i0:∀f6 a4 w',(∃p,d7 p=some f5/\f6=p.app st)->a4.defers=a.defers->e3 C f6 a4.tmps w'->next a4 w') (gs:eY E.tt c=some x) (is:a2 x n=true) (t:n.size=1) (am:n.pure=true) {id:Nat} {k g:List n.den} (O:ao st.h id=some ⟨.osl n,k⟩) (J:b<=l) (K:l<=k.length) (i8:vC I C.B w n (a.eval d6) g) {bl:Option Addr} {el:Nat} (f0:a.eval m=.slice bl (l-b) el) (i3:l-b=0\/∃d j V,rt id=[.slice (some ⟨d,j,none⟩) k.length V]/\bl=some ⟨d,j+b,none⟩) (gi:d7 ⟨some (W,.val (.int .i64) ((min g.length (l-b):Nat):Int)),[id],[(id,[])],[(id,⟨.osl n,jP k g b l⟩)]⟩=some f5):o.wp E.P a w next d9:=by
 obtain⟨f,d8,ar,fn,ge⟩:=eY.ok gs;have gf:=ge.lay is;obtain⟨pm,_,a0,_⟩:=gf.info;obtain⟨d5,mo,f7⟩:=ds.tree id _ O;obtain⟨f8,mp,X,f2,d1,hw⟩:=i8;have eq:∀w':World,w'.heap.size=w.heap.size->w'.os=w.os->w'.tape=w.tape->w'.output=w.output->(∀d,d∉fp id->w'.heap[d]?=w.heap[d]?)->(∀d,hl w' d=hl w d)->aN (ba I C.B) w' (.osl n) (rt id) (jP k g b l) (fp id)->
  (Builtin.copy_ #[c,q] o.type #[a.eval m,a.eval d6]).run E.P w=.ok (goInt ((min g.length (l-b):Nat):Int)) w'->o.wp E.P a w next d9:=by
  intro w' le lk lo lp lt mc l2 N;have N:(execOp a.eval o).run E.P w=.ok (.value (goInt ((min g.length (l-b):Nat):Int))) w':=(by simp only[execOp,i1,resolve,invoke,builtin,Sem.run_bind,Sem.run_pure,Result.andThen_ok,vx,ep,pS,N]);have i2:=ds.eH (S:=[id]) (keep:=[(id,[])]) (new:=[(id,⟨.osl n,jP k g b l⟩)]) (rtn:=rt) (fpn:=fp) (w':=w') (I':=I)
   ⟨Nat.le_of_eq le.symm,lk,lo,lp,λd Y go=>lt d (go id ab _ O),λd _=>.of_eq (mc d),λ_ H=>H,λ_ H=>.inl H,(by
    intro f d4 s;rw[bU] at s;split at s
    ·rename_i p;subst p;cases s;exact⟨.inl ab,l2,mo,λd Y=>⟨(f7 d Y).1,by have:=(f7 d Y).2.2.1;omega,.inr ⟨_,ab,_,O,Y⟩⟩⟩
    ·cases s),(by
    intro f e rd rg s d3 ic;rw[bU] at s d3;split at s
    ·split at d3
     ·rename_i aj ce;exact absurd (aj.symm.trans ce) ic
     cases d3
    ·cases s),(by
    intro p A d4 an;simp only[dP] at A;subst A;have an:ao st.h id=some d4:=an;rw[O] at an;obtain rfl:=ec an;exact⟨⟨.osl n,jP k g b l⟩,by rw[bU,if_pos rfl],rfl,rfl,⟨_,rfl⟩,λlb _ _ _ u=>by rw[AV] at u;cases u⟩),(by
    intro p A d4 _ lb _ _ _ _ _ Z;simp only[dP] at A;subst A;rw[sb] at Z;cases Z)⟩
  unfold Oper.wp;rw[N];show next (a.put o.dst _) w'
  rw[Z];have am:=i2.put hi (av:=.val (.int .i64) ((min g.length (l-b):Nat):Int)) (v:=goInt ((min g.length (l-b):Nat):Int)) (.val (τ:=.int .i64) (cs:=[.int .i64 _]) ⟨rfl,rfl⟩);have hrel:e3 C ((bm.mk (some (W,.val (.int .i64) ((min g.length (l-b):Nat):Int))) [id] [(id,[])] [(id,⟨.osl n,jP k g b l⟩)]).app st) (a.put (some W) (goInt ((min g.length (l-b):Nat):Int))).tmps w':=(by rw[bm.RM];exact⟨I,_,_,am⟩);exact i0 _ _ _ ⟨_,gi,rfl⟩ rfl hrel
 have io:Nat.min g.length (l-b)=min g.length (l-b):=rfl;by_cases u:min g.length (l-b)=0
 ·have gt:jP k g b l=k:=by
   apply g9;intro f;rw[Hk J K,if_neg U]
  refine eq w rfl rfl rfl rfl (λ_ _=>rfl) (λ_=>rfl) (by rw[gt];exact d5) ?_;rw[f0,f2,u];exact run_copy_none w c q o.type d8 bl f8 _ _ _ _ fn (by rw[a0.info];simp[a0.size,t]) (by rw[io];exact u)
 rcases i3 with of|⟨d,j,V,fT,rfl⟩
 ·omega
 rw[fT] at d5;obtain⟨ne,n5,aj,ce⟩:=d5;simp only[fK,Value.slice.injEq,and_true] at aj;obtain⟨rfl,_,rfl⟩:=aj;rcases ce with⟨bs,_⟩|⟨nn,ps,G,bs,d2,co,cv,dl,ex⟩
 ·cases bs
 cases bs;have cv:k.length<=V:=cv;have co:G.length=k.length:=co;have hv:G.flatten=[]:=Dt (λci L=>by
  obtain⟨f,s,rfl⟩:=ha.1 L;have or:f<k.length:=(by rw[<-co];exact s);obtain⟨D,_,_,F⟩:=ex f k[f] G[f] ab ab;exact F.pure am)
 rw[hv] at d2;obtain⟨ap,f4,kg,k0,la⟩:=d1.cells U;rw[t,Nat.mul_one] at f4;have f1:g≠[]:=λp=>(by rw[p] at u;simp at u);obtain⟨a3,rfl⟩:∃a3,f8=some a3:=by
  rcases d1.2 with H|⟨no,pr,rfl,_⟩
  ·exact absurd H f1
  exact⟨_,rfl⟩
 let i:=ap.take (min g.length (l-b))
 have ft:i.length=min g.length (l-b):=(by simp[i,f4]);have hc:∀e v,i[e]?=some v->ap[e]?=some v:=λe v r=>by
  rw[rr] at r;split at r
  ·exact r
  cases r
 have d0:∀e,e<i.length->(w.cell? ⟨d,j+b+e,none⟩).isSome=true:=λe r=>(dl (j+b+e) U (by rw[t];omega)).1;have N:=run_copy_cells (P:=E.P) w c q o.type d8 d (j+b) (l-b) el a3 g.length mp i fn (by rw[a0.info];simp[a0.size,t]) (by rw[ft]) (λe v r=>k0 a3 rfl f1 e v (hc e v r)) d0 (λe r=>(dl (j+b+e) U (by rw[t];omega)).2) (λv y=>kg v (List.mem_of_mem_take y));have fs:d∈fp id:=(by rw[d2];simp);have gl:∀R z,ba I C.B R z->z≠d:=λR z ad p=>ds.notM O d fs R (p▸ad);refine eq (w.setCells d (j+b) i) (u3 d i _ w) (om d i _ w).1 (om d i _ w).2.1 (om d i _ w).2.2 (λz u=>xV d i _ w z (λp=>u (p▸fs))) (λz=>xg _ _ _ _ _) ?_ ?_
 ·rw[fT,d2];refine⟨some ⟨d,j,none⟩,V,by rw[CO J K],.inr ⟨d,j,List.replicate k.length [],rfl,by rw[Dt (λci L=>List.eq_of_mem_replicate L)],by rw[CO J K];simp,by rw[CO J K];exact cv,?_,?_⟩⟩
  ·intro e jp kd;obtain⟨mt,nd⟩:=dl e jp kd;exact⟨by rw[<-mt,(U:e=(j+b)+e-(j+b))];exact(Fb d i (j+b) w d0 _).trans (by congr 1),by rw[World.frozen?_setCells];exact nd⟩
  intro f T ci Q L;have hs:ci=[]:=(by have:=kD L;exact List.eq_of_mem_replicate this);subst hs;rw[Hk J K] at Q;have f3:∀{D:cS} {T:n.den},aN (ba I C.B) w n D T []->aN (ba I C.B) (w.setCells d (j+b) i) n D T []:=λM=>M.mono (λR z ad=>⟨ad,pw (gl R z ad)⟩) ab;split at Q
  ·rename_i on;have r:f-b<i.length:=U;have ib:X[f-b]?=some []:=by
    have fz:f-b<X.length:=(by rw[d1.1];omega);rw[bo fz];have:X[f-b]∈X:=bQ fz;congr 1;exact(List.flatten_eq_nil_iff.1 hw) _ this
   have M:=la (f-b) T [] Q ib;rw[t,Nat.mul_one] at M;have hr:(ap.drop (f-b)).take 1=[i[f-b]]:=(by have ii:f-b<ap.length:=U;rw[Cf ii];simp only[List.take_succ_cons,List.take_zero,fK,and_true];simp[i]);rw[hr] at M;refine⟨[i[f-b]],by simp[t],?_,f3 M⟩;intro e v y;cases e with
   |zero=>
    simp only[iL,bI] at y;subst y;have:=World.cell?_setCells_in d i (j+b) w d0 (f-b) r;rw[<-this,t];congr 2;omega
   |succ e=>simp at y
  rename_i pl;have ol:f<k.length:=(eb.1 Q).1;obtain⟨D,em,gc,F⟩:=ex f T (G[f]'(by omega)) Q ab
  have A:G[f]'(by omega)=[]:=F.pure am
  rw[A] at F;refine⟨D,em,?_,f3 F⟩;intro e v y;have:=gc e v y;have r:e<D.length:=(eb.1 y).1;rw[World.cell?_setCells_out d i (j+b) w _ (λ_ _=>?_)]
  ·exact this
  rw[em,t] at r;simp only[t];omega
 rw[f0,f2];have:goInt ((min g.length (l-b):Nat):Int)=goInt i.length:=(by rw[ft]);rw[this];exact N
theorem dm.copy {S:Type} {O:S} {H:bm->Option S} {R:Operand} (B:o.op=.call {callee:=.builtin .copy,args:=#[m,R],argTypes:=#[c,q]}) (x:o.dst=some b) (y:C.ok b) (d:oT E.tt st.h b c (aO st.g m) (aO st.g R) H=some O):dm E C o st (λY=>∃L,H L=some O/\Y=L.app st):=by
 rintro a w ⟨I,rt,fp,f⟩ next an A
 have k:=f.aO m;unfold oT at d;split at d
 ·cases d
 rename_i P D;split at d
 ·rename_i id v;split at d
  case h_2=>cases d
  rename_i j Q i;cases e:(a2 P j&&Nat.beq j.size 1&&j.pure) with
  |false=>rw[e] at d;cases d
  |true=>
  rw[e] at d;simp only[bd] at e;obtain⟨ad,p,d⟩:=bZ.1 d;rw[v] at k;generalize n:a.eval m=Z at k;cases k with|ref l z=>
  rw[i] at l;cases l;obtain⟨rfl,rfl,rfl⟩:=aP.eR.1 z;have G:=(f.tree id _ i).1;obtain⟨J,s,aj,M⟩:=G;have U:a.eval m=.slice J (Q.length-0) s:=(by rw[n,aj];rfl);refine CN f B x y A D e.1.1 (er e.1.2) e.2 i (dQ _) (a8 _) (FF f p) U ?_ d;rcases M with⟨_,rfl,_⟩|⟨r,F,ap,rfl,_⟩
  ·exact .inl rfl
  exact .inr ⟨r,F,s,aj,rfl⟩
 ·rename_i id X av v;split at d
  case h_2=>cases d
  rename_i j Q i;cases e:(a2 P j&&Nat.beq j.size 1&&j.pure) with
  |false=>rw[e] at d;cases d
  |true=>
  rw[e] at d;simp only[bd] at e;obtain⟨ad,p,d⟩:=bZ.1 d;rw[v] at k;generalize n:a.eval m=Z at k;cases k with|kv=>(exact CN f B x y A D e.1.1 (er e.1.2) e.2 i (a8 _) (dQ _) (FF f p) n (.inl rfl) d)|view l z V W a0=>
  rw[i] at l;cases l;rename_i am a4 r F a3 s;obtain⟨t,_,u⟩:=aP.eR.1 z;have t:ag.osl j=ag.osl am:=t;cases t;have N:=er e.1.2;have G:=(f.tree id _ i).1;obtain⟨J,K,aj,M⟩:=G;rw[aj] at u;simp only[fK,Value.slice.injEq,and_true] at u;obtain⟨rfl,rfl,rfl⟩:=u;refine CN f B x y A D e.1.1 N e.2 i V W (FF f p) n ?_ d;by_cases T:K=X
  ·left;omega
  exact .inr ⟨r,F,K,aj,by rw[if_neg T,N,Nat.mul_one]⟩
 cases d
end
end
section
theorem aP.cells {w q:World} (e:∀a,q.cell? a=w.cell? a):∀{p:List aV} {τ r:ag} {m n:Loc} {f g:cS},aP w τ m f p r n g->aP q τ m f p r n g
 |[],τ,_,_,_,_,_,c=>by cases τ<;>exact c
 |s::p,τ,r,m,n,f,g,c=>by
  have u:∀{b o:Nat} {d:cS},dK w b o d->dK q b o d:=λy A C z=>(by rw[e];exact y A C z);cases τ<;>cases s<;>simp only[aP] at c
  case osl.idx t i=>
   obtain⟨b,o,B,v,d,h,j,k,l,x⟩:=c;exact⟨b,o,B,v,d,h,j,k,u l,x.cells e⟩
  case optr.deref t=>
   obtain⟨b,o,d,h,j,k,l⟩:=c;exact⟨b,o,d,h,j,u k,l.cells e⟩
  case st.unst t=>exact aP.cells e (τ:=t) c
  case pr.fst a b=>exact aP.cells e (τ:=a) c
  case pr.snd a b=>exact aP.cells e (τ:=b) c
theorem aaG (a:ag):dI a []=some a:=by cases a<;>rfl
theorem aP.u7 {w:World} {r:List aV}:∀{p:List aV} {τ c:ag} {m n:Loc} {e f:cS},aP w τ m e p c n f->dI τ (p++r)=dI c r
 |[],τ,_,_,_,_,_,a=>by obtain⟨rfl,_⟩:=aP.eR.1 a;rfl
 |s::p,τ,_,_,_,_,_,a=>by
  cases τ<;>cases s<;>simp only[aP] at a
  case osl.idx t i=>obtain⟨d,o,u,q,g,h,j,k,b,l⟩:=a;exact l.u7
  case optr.deref t=>obtain⟨d,o,g,h,j,k,b⟩:=a;exact b.u7
  case st.unst t=>exact aP.u7 (p:=p) (τ:=t) a
  case pr.fst t1 t2=>exact aP.u7 (p:=p) (τ:=t1) a
  case pr.snd t1 t2=>exact aP.u7 (p:=p) (τ:=t2) a
section
variable {E:dW} {C:dn} {st:aJ} {a:Act} {A:cQ} {w:World} {I:Nat->Prop} {rt:Nat->cS} {fp:Nat->cY} {o:Oper} {Q:aJ->Prop}
theorem Ho:∀{p q:List aV},jk (p++[.deref]) q=true->jk p q=true
 |[],q,a=>by
  cases q with
  |nil=>cases a
  |cons s q=>
   cases s<;>cases a
 |s::p,[],a=>by cases s<;>cases a
 |s::p,b::q,a=>by cases s<;>cases b<;>first|(cases a;done)|exact Ho (p:=p) (q:=q) a|rfl
theorem bt.A4 (y:bt C st A w I rt fp) {id:Nat} (p:ao st.h id=some F) {av:Loc} (W:aP w F.1 none (rt id) j x av H) {am:List (Int×n.den)} (d1:c4 F.1 F.2 j (.mp n) (some (am,b))):∃c L J,H=[.map (some c)]/\c∈fp id/\(∀q a,ba I C.B q a->a≠c)/\fu (ba I C.B) w n c am b L J/\∀{k:Array MapEntry} {e:Nat} {G:List (Int×n.den)} {R:List (Int×Nat×n.den)} {s:F.1.den},fu (ba I C.B) (eZ w c k e) n c G e k R->i7 w (eZ w c k e) c->dB F.1 F.2 j (.mp n) (some (G,e)) s->∃fz bl,bt C ⟨kill [id] [(id,j++[.deref])] st.g,(id,⟨F.1,s⟩)::del [id] st.h⟩ A (eZ w c k e) I fz bl:=by
 obtain⟨d9,N,T⟩:=y.tree id F p;obtain⟨gc,f3,f5,ft,bs,ce,ci,v,f6,co,cs⟩:=wW j (loc:=none) d9 (λ_ _ l=>by cases l) N (λ_ _ l=>by cases l) (y.notM p) d1;obtain⟨a3,aj,K⟩:=W.ih bs;subst a3;subst aj;subst K;obtain⟨c,L,J,rfl,rfl,M⟩:=ce.Jd;have z:c∈fp id:=v.mem_iff.2 ab;have S:∀q a,ba I C.B q a->a≠c:=λq a d f=>y.notM p c z q (f▸d);refine⟨c,L,J,rfl,z,S,M,?_⟩;intro k e G R s dl ds Z;have X:=v.nodup_iff.1 N;rw[hF] at X;have Y:∀a∈ft,a≠c:=λa d f=>X.2.2 c ab a d f.symm;have D:=ZP (es':=k) (c':=e) M.h;have d0:=ZQ (es':=k) (c':=e) M.h;have ad:∀a,a≠c->bN w (eZ w c k e) a:=λa d=>BJ d;obtain⟨f4,a4,em,_,eq,_,P,_,f8⟩:=co (eZ w c k e) (ba I C.B) [.map (some c)] (some (G,e)) [c] s (λ_ _ l=>l) (λa d=>by
   have d3:a≠c:=by
    rcases d with⟨q,d4⟩|d|⟨o,d7⟩
    ·exact S q a d4
    ·exact Y a d
    cases d7
   exact⟨λu _=>D _,λu=>d0 _,λu=>by rw[D],(ad a d3).2⟩)
  (aN.Je dl) (λ_ _=>rfl) (λa0 ex f=>by
   have:=(ci a0 ex f).1;exactλu ap t=>by rw[D];exact this u ap t) Z
 obtain rfl:=eq rfl (.inr rfl);have f7:=(T c z).2.2.1;have i:lE C st w (eZ w c k e) I I rt fp [id] [(id,j++[.deref])] [(id,⟨F.1,s⟩)] (λ_=>rt id) (λ_=>a4):=by
  refine⟨by rw[LQ];exact a8 _,rfl,rfl,rfl,?_,?_,λ_ l=>l,λ_ l=>.inl l,?_,?_,?_,?_⟩
  ·intro a _ d;exact xW (λf=>d id ab F p (f▸z))
  ·intro a _;by_cases f:a=c
   ·subst f;exact ds
   exact .of_heap (xW f)
  ·intro O Q i;rw[bU] at i;split at i
   ·rename_i f;subst f;cases i;refine⟨.inl ab,em,?_,λa d=>?_⟩
    ·rw[P.nodup_iff,<-v.nodup_iff];exact N
    have V:a∈fp id:=v.mem_iff.2 (P.mem_iff.1 d);obtain⟨ar,fn,fs,gf⟩:=T a V;exact⟨ar,by rw[LQ];exact fs,.inr ⟨id,ab,F,p,V⟩⟩
   cases i
  ·intro O u Q ap m t d2;rw[bU] at m t;split at m
   ·split at t
    ·rename_i aj K;exact absurd (aj.symm.trans K) d2
    cases t
   cases m
  ·intro O m Q i;simp only[dP] at m;subst m;rw[p] at i;obtain rfl:=ec i;refine⟨⟨F.1,s⟩,by rw[bU,if_pos rfl],rfl,rfl,?_,λan go ge f1 _ d8=>d8.cells D⟩;have cv:=W.u7 (r:=[.deref]);have:∃fT,dI (.mp n) [.deref]=some fT:=⟨n,aaG n⟩;rw[cv];exact this
  intro O m Q i an gl gi f9 f0 f2 E d6 d5 U el;simp only[dP] at m;subst m;rw[p] at i;obtain rfl:=ec i;have E:=Ho E;refine⟨⟨F.1,s⟩,by rw[bU,if_pos rfl],sc E Z U,λa d=>?_⟩;obtain⟨ar,fn⟩:=cs an _ _ _ _ _ E (by exact d6) U d5 el a d;exact⟨P.mem_iff.2 (k2 _ ar),ad a (Y a ar)⟩
 exact⟨_,_,y.eH i⟩
def pg {α:Type} (c:Option (List (Int×α)×Nat)) (b:Int) (d:α):Option (Option (List (Int×α)×Nat)):=match c with
 |none=>none
 |some a=>some (some (g6 a.1 b d,bif (eg a.1 b).isSome then a.2 else a.2+1))
def my {f:Type} (tt:List (TypeId×ag)) (i:List (Nat×aC)) (h:TypeId) (n d m:al) (g:bm->Option f):Option f:=
 match n with
 |.ref id c=>match ao i id with
  |some a=>match ju tt h,d,m with
   |some l,.val (.int .i64) d,.val p e=>match dI a.1 c with
    |some (.mp b)=>bif a2 l b then match gA b e with
     |some e=>(gg a.1 a.2 c (.mp b)).bind λj=>(pg (α:=b.den) j d e).bind λk=>(kT a.1 a.2 c (.mp b) k).bind λo=>g ⟨none,[id],[(id,c++[.deref])],[(id,⟨a.1,o⟩)]⟩
     |none=>none
     else none
    |_=>none
   |_,_,_=>none
  |none=>none
 |_=>none
def Vb {α:Type} (c:Option (List (Int×α)×Nat)) (b:Int):Option (Option (List (Int×α)×Nat)):=match c with
 |none=>none
 |some a=>some (some (hC a.1 b,a.2))
def pi {e:Type} (tt:List (TypeId×ag)) (h:List (Nat×aC)) (g:TypeId) (l d:al) (f:bm->Option e):Option e:=
 match l with
 |.ref id b=>match ao h id with
  |some a=>match ju tt g,d with
   |some k,.val (.int .i64) d=>match dI a.1 b with
    |some (.mp c)=>bif a2 k c then
     (gg a.1 a.2 b (.mp c)).bind λi=>(Vb (α:=c.den) i d).bind λj=>(kT a.1 a.2 b (.mp c) j).bind λm=>f ⟨none,[id],[(id,b++[.deref])],[(id,⟨a.1,m⟩)]⟩
     else none
    |_=>none
   |_,_=>none
  |none=>none
 |_=>none
theorem Jk {D:Type} {A:D} {s:bm->Option D} {f e:Operand} (j:o.op=.mapUpdate c f m e\/o.op=.insert c f m e) (T:o.dst=none) (b:my E.tt st.h c (aO st.g f) (aO st.g m) (aO st.g e) s=some A):dm E C o st (λco=>∃u,s u=some A/\co=u.app st):=by
 rintro a w ⟨I,rt,fp,i⟩ next d3 X
 have q:=i.aO f;have d:=i.aO m;have p:=i.aO e;unfold my at b;split at b
 case h_2=>cases b
 rename_i id d7 J;split at b
 case h_2=>cases b
 rename_i fs y;split at b
 case h_2=>cases b
 rename_i dl k fn eq S F H;obtain⟨ds,d2,cs,cv,d8⟩:=ju.ok S;split at b
 case h_2=>cases b
 rename_i r Z;cases n:a2 dl r with
 |false=>rw[n] at b;cases b
 |true=>
 rw[n] at b;simp only[cond_true] at b;split at b
 case h_2=>cases b
 rename_i em an;obtain⟨a3,V,L⟩:=bZ.1 b;obtain⟨d6,v,M⟩:=bZ.1 L;obtain⟨ex,ap,N⟩:=bZ.1 M;cases a3 with
 |none=>cases v
 |some a4=>
 obtain⟨av,t⟩:=a4;cases v;cases iR an;rw[J] at q;rw[F] at d;rw[H] at p;generalize am:a.eval f=el at q;generalize W:a.eval m=d5 at d;generalize ad:a.eval e=d9 at p;cases d with|val ce=>
 obtain⟨_,rfl⟩:=ce;cases p with|val B=>
 cases q with|ref z x=>
 rw[y] at z;cases z;obtain⟨l,d4,d0,rfl,n,Q,O,U⟩:=i.A4 y x (g3 V);have:=x.ty;rw[Z] at this;cases this;obtain⟨G,d1,ar,bl,bs⟩:=O.update (P:=E.P) cs cv k B.len B;obtain⟨ci,K,R⟩:=U (bl (λa0 m d=>⟨d,Q a0 m d⟩)) bs (lm ap);unfold Oper.wp;have Y:(execOp a.eval o).run E.P w=.ok .skip (eZ w l G (bif (eg av k).isSome then t else t+1)):=by
  have this:∀r:ag,bH (.mp r) [Value.map (some l)]=.map (some l):=λ_=>rfl;rcases j with j|j<;>
  ·simp only[execOp,j,am,W,ad,Sem.run_bind];rw[this,show bH (.int .i64) [Value.int .i64 k]=.int .i64 k from rfl,ar];rfl
 rw[Y];show next (a.put o.dst undef) _
 rw[T];refine X _ _ _ ⟨_,N,?_⟩ rfl ⟨I,ci,K,R⟩;rfl
theorem Vl {y:Type} {x:y} {p:bm->Option y} {e:Operand} (U:o.op=.call {callee:=.builtin .delete,args:=#[e,m],argTypes:=#[c,q]}) (O:o.dst=none) (b:pi E.tt st.h c (aO st.g e) (aO st.g m) p=some x):dm E C o st (λa3=>∃r,p r=some x/\a3=r.app st):=by
 rintro a w ⟨I,rt,fp,i⟩ next cv T
 have k:=i.aO e;have d:=i.aO m;unfold pi at b;split at b
 case h_2=>cases b
 rename_i id d2 D;split at b
 case h_2=>cases b
 rename_i d6 u;split at b
 case h_2=>cases b
 rename_i bs l N A;obtain⟨ce,cs,a4,bl,d3⟩:=ju.ok N;split at b
 case h_2=>cases b
 rename_i n W;cases j:a2 bs n with
 |false=>rw[j] at b;cases b
 |true=>
 rw[j] at b;simp only[cond_true] at b;obtain⟨ad,R,G⟩:=bZ.1 b;obtain⟨d1,s,H⟩:=bZ.1 G;obtain⟨d5,Y,J⟩:=bZ.1 H;cases ad with
 |none=>cases s
 |some am=>
 obtain⟨d0,z⟩:=am;cases s;rw[D] at k;rw[A] at d;generalize X:a.eval e=d4 at k;generalize S:a.eval m=ds at d;cases d with|val av=>
 obtain⟨_,rfl⟩:=av;cases k with|ref v t=>
 rw[u] at v;cases v;obtain⟨f,dl,ci,rfl,j,L,K,Q⟩:=i.A4 u t (g3 R);have:=t.ty;rw[W] at this;cases this;obtain⟨B,co,ar,an,ap⟩:=K.delete (P:=E.P) a4 bl l o.type q;obtain⟨a0,F,M⟩:=Q (an (λZ m d=>⟨d,L Z m d⟩)) ap (lm Y);unfold Oper.wp;have V:(execOp a.eval o).run E.P w=.ok (.value (.tuple #[])) (eZ w f B z):=(by simp only[execOp,U,resolve,invoke,builtin,Sem.run_bind,Sem.run_pure,Result.andThen_ok,vx,ep,pS,X,S];have this:∀n:ag,bH (.mp n) [Value.map (some f)]=.map (some f):=λ_=>rfl;rw[this,show bH (.int .i64) [Value.int .i64 l]=.int .i64 l from rfl,ar];rfl);rw[V];show next (a.put o.dst (.tuple #[])) _
 rw[O];refine T _ _ _ ⟨_,J,?_⟩ rfl ⟨I,a0,F,M⟩;rfl
def sO (c:List (Nat×aC)) (f g:al):Option (Nat×List aV×Nat×aC):=match f,g with
 |.ref id (e::d),.ref a []=>match ao c a with
  |some b=>match b.1 with
   |.osl h=>match h.pure with
    |true=>none
    |false=>some (id,e::d,a,b)
   |_=>none
  |none=>none
 |_,_=>none
def vE {h:Type} (tt:List (TypeId×ag)) (e:List (Nat×aC)) (b:Nat) (j:TypeId) (id:Nat) (c:List aV) (f:Nat) (k:aC) (i:bm->Option h):Option h:=
 match eY tt j,ao e id,ao e b with
 |some l,some d,none=>match dI d.1 c with
  |some (.osl a)=>match gA (.osl a) k.2 with
   |some g=>bif a2 l a&&(Nat.ble a.size 1300&&(a.ik&&!(Nat.beq f id))) then
    (gg d.1 d.2 c (.osl a)).bind λm=>(bK (List.length (α:=a.den) m+List.length (α:=a.den) g)).bind λ_=>i ⟨some (b,.app id c a g [b,f]),[id],[(id,c),(id,[])],[(b,⟨.c6,()⟩),(id,d)]⟩
    else none
   |none=>none
  |_=>none
 |_,_,_=>none
def me {g:Type} (tt:List (TypeId×ag)) (h:List (Nat×ag)) (a:List (Nat×aC)) (d:Nat) (c:TypeId) (e f:al) (b:bm->Option g):Option g:=match sO a e f with
 |some (id,j,i,k)=>vE tt a d c id j i k b
 |none=>mV tt h a d c e f b
theorem EL {id:Nat} (a:sO e d t=some (id,j,b,F)):d=.ref id j/\t=.ref b []/\ao e b=some F:=by
 unfold sO at a;split at a
 ·split at a
  ·rename_i f c;split at a
   ·split at a
    ·cases a
    cases a;exact⟨rfl,rfl,c⟩
   cases a
  cases a
 cases a
theorem RJ {K:Type} {F:K} {s:bm->Option K} {H:Operand} (z:o.op=.call {callee:=.builtin .append,args:=#[H,m],argTypes:=#[c,c]}) (v:o.dst=some b) (x:C.ok b) (d:me E.tt k st.h b c (aO st.g H) (aO st.g m) s=some F):dm E C o st (λbl=>∃e,s e=some F/\bl=e.app st):=by
 unfold me at d;split at d
 case h_2=>exact dm.app z v x (RG d (λe q=>⟨e,q,rfl⟩))
 rename_i id ds i bs ad;obtain⟨R,S,n⟩:=EL ad;unfold vE at d;split at d
 case h_2=>cases d
 rename_i ce d5 P an Q;split at d
 case h_2=>cases d
 rename_i j cs;split at d
 case h_2=>cases d
 rename_i d3 av;cases f:(a2 ce j&&(Nat.ble j.size 1300&&(j.ik&&!(Nat.beq i id)))) with
 |false=>rw[f] at d;cases d
 |true=>
 rw[f] at d;simp only[bd] at f;obtain⟨V,am,Y,l⟩:=f;have l:i≠id:=λe=>(by subst e;rw[pU] at l;cases l);obtain⟨d2,ap,N⟩:=bZ.1 d;obtain⟨_,W,O⟩:=bZ.1 N;obtain⟨d4,J⟩:=bs;cases iR av;rintro a w ⟨I,rt,fp,p⟩ next ci Z
 refine GC (S2:=[i]) z v x p Z P V (eM am) Y R an Q (g3 ap) ?_ ?_ (uC W) ⟨_,O,rfl⟩
 ·have r:=p.aO m;rw[S] at r;generalize cv:a.eval m=d1 at r;cases r with|ref D X=>
  rw[n] at D;cases D;obtain⟨rfl,rfl,rfl⟩:=aP.eR.1 X;obtain⟨G,a4,d0⟩:=p.tree i _ n;have a0:=G;obtain⟨t,u,A,co⟩:=a0;have a3:aN (ba I C.B) w (.osl j) [.slice t (List.length (α:=j.den) J) u] J (fp i):=(by rw[<-A];exact G);obtain⟨_,_,M,q,T,U,_⟩:=iJ.osl a3;exact⟨t,u,M,by rw[A];rfl,q,U a4,λL f=>⟨i,ab,_,n,T L f⟩⟩
 intro dl y;simp only[dP] at y;subst y;exact⟨l,_,n⟩
end
end
section
section
variable {P:Program} {w:World} {b c:Nat} {A:Array MapEntry} {M:c5->Nat->Prop} {t:ag} {l:List (Int×t.den)} {L:List (Int×Nat×t.den)}
theorem Fc {d f:Array MapEntry} {e:Nat} (g:w.heap[b]?=some (.map A c)) (h:eZ w b d W=eZ w b f e):d=f/\W=e:=by have a:=lR (es':=d) (c':=W) g;rw[h,lR g] at a;simp only[bI,Obj.map.injEq] at a;exact⟨a.1.symm,a.2.symm⟩
theorem fu.GN (f:fu M w t b l c A L) (h:A[W]?=some O):∃d a,L[W]?=some d/\O=⟨.int .i64 d.1,bH t a,d.2.1⟩:=by have i:W<L.length:=(by have:=(lW.1 h).1;rw[f.n] at this;exact this);obtain⟨a,_,g,_⟩:=f.e W L[W] (bo i);rw[h] at g;exact⟨L[W],a,bo i,ec g⟩
theorem fu.aaM (h:fu M w t b l c A L) {a:Nat} {e f:Int×Nat×t.den} (d:L[W]?=some e) (m:L[a]?=some f) (g:e.1=f.1):W=a:=by have n:=h.nf.uO;have k:W<(L.map (·.1)).length:=(by have:=(eb.1 d).1;simpa using this);apply(List.getElem?_inj k n (i:=W) (j:=a)).1;rw[eS,eS,d,m];simp[g]
theorem fu.aaL (h:fu M w t b l c A L) {d:Nat} {f a:Int×Nat×t.den} (e:L[W]?=some f) (m:L[d]?=some a) (g:f.2.1=a.2.1):W=d:=by have n:=h.nf.2.2.1;have k:W<(L.map λa=>a.2.1).length:=(by have:=(eb.1 e).1;simpa using this);apply(List.getElem?_inj k n (i:=W) (j:=d)).1;rw[eS,eS,e,m];simp[g]
theorem Jc {c:Array a} {d e:a->a} (f:∀b,c[W]?=some b->d b=e b):c.modify W d=c.modify W e:=by
 apply Array.ext_getElem?;intro i;rw[pH,pH];split
 ·rename_i b;subst b;cases g:c[W]? with
  |none=>rfl
  |some h=>simp[f h g]
 rfl
theorem fu.entry (d:fu M w t b l c A L) {B z:TypeId} {R:IntKind} (n:P.underlying q=some (.map B z)) (g:P.underlying B=some (.int R)) (a:Int) {y:t.den} (O:H.length=t.size) (I:aN M w t H y []) (Q:∀w,(zeroValue z).run P w=.ok (bH t H) w):∃(f:Array MapEntry) (o:List (Int×Nat×t.den)) (v:cS) (p e:Nat),(Instr.mapEntry q (.map (some b)) (.int .i64 a)).run P w=.ok (.tuple #[bH t v,goInt ((p:Nat):Int)]) (eZ w b f (bif (eg l a).isSome then c else c+1))/\aN M w t v ((eg l a).getD y) []/\f[e]?=some (MapEntry.mk (.int .i64 a) (bH t v) p)/\(∀{C:c5->Nat->Prop},(∀J a,M J a->C J a/\a≠b)->fu C (eZ w b f (bif (eg l a).isSome then c else c+1)) t b (g6 l a ((eg l a).getD y)) (bif (eg l a).isSome then c else c+1) f o)/\i7 w (eZ w b f (bif (eg l a).isSome then c else c+1)) b:=by
 rcases d.find (P:=P) g a with⟨x,N,s⟩|⟨e,p,T,r,x,N,s,u,D,E⟩
 ·obtain⟨f,o,ar,i,j⟩:=d.update (P:=P) n g a O I;rw[x] at ar i j|-;simp only[Option.isSome_none,cond_false,Option.getD_none] at ar i j|-;have k:(Instr.mapUpdate q (.map (some b)) (.int .i64 a) (bH t H)).run P w=.ok () (eZ w b (A.push ⟨.int .i64 a,bH t H,c⟩) (c+1)):=by
   simp only[Instr.mapUpdate,Sem.run_bind,run_underlying n,Result.andThen_ok,run_getObj_map d.h,mE g,s];exact oj d.h
  rw[ar] at k;simp only[Result.ok.injEq,true_and] at k;obtain⟨rfl,_⟩:=Fc d.h k;refine⟨_,o,H,c,A.size,?_,I,by rw[vh,if_pos rfl],i,j⟩;simp only[Instr.mapEntry,Sem.run_bind,run_underlying n,Result.andThen_ok,run_getObj_map d.h,mE g,s,Q,oj d.h,Sem.run_pure];rfl
 obtain⟨f,o,ar,i,j⟩:=d.update (P:=P) n g a s D;rw[x] at ar i j|-;simp only[yn,cond_true,pW] at ar i j|-;have G:(Instr.keyThatStays (((A[e]?).map (·.key)).getD (.int .i64 a)) (.int .i64 a)).run P w=.ok (.int .i64 a) w:=(by rw[u];simp[Instr.keyThatStays,Instr.sameBits]);have k:(Instr.mapUpdate q (.map (some b)) (.int .i64 a) (bH t r)).run P w=.ok () (eZ w b (A.modify e λm=>{m with key:=.int .i64 a,val:=bH t r}) c):=(by simp only[Instr.mapUpdate,Sem.run_bind,run_underlying n,Result.andThen_ok,run_getObj_map d.h,mE g,E,G];exact oj d.h);rw[ar] at k;simp only[Result.ok.injEq,true_and] at k;obtain⟨rfl,_⟩:=Fc d.h k;refine⟨_,o,r,p,e,?_,D,by rw[pH,if_pos rfl,u];rfl,i,j⟩;have aj:(A.modify e λm=>{m with key:=.int .i64 a,val:=bH t r})=A.modify e λm=>{m with key:=.int .i64 a}:=Jc λm F=>(by rw[u] at F;cases F;rfl);have K:((A[e]?).map λS=>((S.born:Nat):Int)).getD 0=(p:Int):=(by rw[u];rfl);simp only[Instr.mapEntry,Sem.run_bind,run_underlying n,Result.andThen_ok,run_getObj_map d.h,mE g,E,G,oj d.h,Sem.run_pure,aj,K];rfl
theorem fu.S9 (d:fu M w t b l c A L) {a:Int} (i:A[W]?=some O) (o:O.key=.int .i64 a) {y J:TypeId} {ap:IntKind} (C:P.underlying q=some (.map y J)) (n:P.underlying y=some (.int ap)) {I:t.den} (T:H.length=t.size) (an:aN M w t H I []):∃f k,(Instr.entryStore q (.map (some b)) (.int .i64 (O.born:Int)) (bH t H)).run P w=.ok () (eZ w b f (bif (eg l a).isSome then c else c+1))/\(∀{z:c5->Nat->Prop},(∀F a,M F a->z F a/\a≠b)->fu z (eZ w b f (bif (eg l a).isSome then c else c+1)) t b (g6 l a I) (bif (eg l a).isSome then c else c+1) f k)/\i7 w (eZ w b f (bif (eg l a).isSome then c else c+1)) b:=by
 obtain⟨j,a4,p,D⟩:=d.GN i;have E:j.1=a:=(by rw[D] at o;simpa using o);rcases d.find (P:=P) n a with⟨B,m,K⟩|⟨e,cv,dl,a3,B,m,K,N,bs,Q⟩
 ·exact absurd E (m j (kD p))
 obtain rfl:e=W:=d.aaM m p (by simp[E]);obtain⟨f,k,ar,u,v⟩:=d.update (P:=P) C n a T an;rw[B] at ar u v|-;simp only[yn,cond_true] at ar u v|-;have Z:(Instr.keyThatStays (((A[e]?).map (·.key)).getD (.int .i64 a)) (.int .i64 a)).run P w=.ok (.int .i64 a) w:=(by rw[N];simp[Instr.keyThatStays,Instr.sameBits]);have x:(Instr.mapUpdate q (.map (some b)) (.int .i64 a) (bH t H)).run P w=.ok () (eZ w b (A.modify e λO=>{O with key:=.int .i64 a,val:=bH t H}) c):=(by simp only[Instr.mapUpdate,Sem.run_bind,run_underlying C,Result.andThen_ok,run_getObj_map d.h,mE n,Q,Z];exact oj d.h);rw[ar] at x;simp only[Result.ok.injEq,true_and] at x;obtain⟨rfl,_⟩:=Fc d.h x;refine⟨_,k,?_,u,v⟩;have aj:(A.modify e λO=>{O with key:=.int .i64 a,val:=bH t H})=A.modify e λO=>{O with val:=bH t H}:=Jc λbl g=>(by rw[i] at g;cases g;rw[<-o]);have V:A.findIdx? (λav=>(av.born:Int)==(O.born:Int))=some e:=by
  rw[Array.findIdx?_eq_some_iff_getElem];have X:=(lW.1 i).1;refine⟨X,?_,λr cs ad=>?_⟩
  ·rw[(lW.1 i).2];simp
  have Y:r<A.size:=U;obtain⟨G,a0,am,g⟩:=d.GN (vg Y);have co:(A[r].born:Int)=(O.born:Int):=(by simpa using ad);have S:G.2.1=j.2.1:=(by have ce:A[r].born=G.2.1:=(by rw[g]);have ci:O.born=j.2.1:=(by rw[D]);omega);have:=d.aaL am p S;omega
 have R:∀(s:Int) (w:World),(asInt (.int .i64 s)).run P w=.ok s w:=λs w=>(by simp[asInt,asIntOf]);simp only[Instr.entryStore,Sem.run_bind,Sem.run_pure,Result.andThen_ok,run_getObj_map d.h,R,V,oj d.h,aj];rfl
end
def pj {f:Type} (tt:List (TypeId×ag)) (j:List (Nat×aC)) (i:Nat) (h:TypeId) (m a:al) (g:bm->Option f):Option f:=
 match m with
 |.ref id c=>match ao j id with
  |some b=>match ju tt h,a with
   |some l,.val (.int .i64) a=>match dI b.1 c with
    |some (
     .mp t)=>match kw t with
     |some e=>bif a2 l t then
      (gg b.1 b.2 c (.mp t)).bind λd=>(pg (α:=t.den) d a ((iG d a).getD e)).bind λk=>(kT b.1 b.2 c (.mp t) k).bind λn=>
       g ⟨some (i,.dw [.val t ((iG (α:=t.den) d a).getD e),.iV id c a]),[id],[(id,c++[.deref])],[(id,⟨b.1,n⟩)]⟩
      else none
     |none=>none
    |_=>none
   |_,_=>none
  |none=>none
 |_=>none
def o8 {b:Type} (tt:List (TypeId×ag)) (e:List (Nat×aC)) (d:TypeId) (k i j:al) (c:bm->Option b):Option b:=
 match k,i with
 |.ref id a,.iV f h g=>bif Nat.beq f id&&j6 h a then my tt e d (.ref id a) (.val (.int .i64) g) j c else none
 |_,_=>none
theorem dB.jq:∀{p:List aV} {τ:ag} {e g:τ.den} {d:ag} {f:d.den},dB τ e p d f g->c4 τ g p d f
 |[],τ,e,g,d,f,c=>by obtain⟨j,c⟩:=dB.eR.1 c;exact c4.eR.2 ⟨j,c⟩
 |s::p,τ,e,g,d,f,c=>by
  cases τ<;>cases s<;>simp only[dB] at c
  case osl.idx t i=>
   obtain⟨j,h,k,c,rfl⟩:=c;have l:i<e.length:=(eb.1 k).1;exact⟨h,by rw[kB l],dB.jq (p:=p) c⟩
  case optr.deref t=>exact dB.jq (p:=p) (τ:=t) c
  case st.unst t=>exact dB.jq (p:=p) (τ:=t) c
  case pr.fst a b=>obtain⟨h,c,rfl⟩:=c;exact dB.jq (p:=p) c
  case pr.snd a b=>obtain⟨h,c,rfl⟩:=c;exact dB.jq (p:=p) c
theorem IA:∀a:List aV,fk (a++[.deref]) a=true
 |[]=>rfl
 |s::a=>by cases s<;>exact IA a
theorem UH (id:Nat) (a:List aV):ef [id] [(id,a++[.deref])] (.ref id a)=.ref id a:=by
 have:jW [(id,a++[.deref])] (.ref id a)=true:=by
  cases a with
  |nil=>simp[jW]
  |cons b a=>
   have:=IA (b::a);simp only[jW,List.any_cons,List.any_nil,Bool.or_false,pU,Bool.true_and];exact this
 show dt _ _ _=_;unfold dt;rw[show hL [id] [(id,a++[.deref])] (.ref id a)=jW [(id,a++[.deref])] (.ref id a) from rfl,this];simp
theorem Yf {id:Nat} (a:aO C m=.ref id j):aO (kill [id] [(id,j++[.deref])] C) m=.ref id j:=by
 cases m with
 |tmp c=>
  have a:gt C c=.ref id j:=a;have b:=m9 [id] [(id,j++[aV.deref])] C c;rw[a] at b;exact b.trans (UH id j)
 |const d=>exact absurd a (by cases d<;>simp[aO])
 |global C=>cases a
 |func e=>cases a
section
variable {E:dW} {C:dn} {st:aJ} {o:Oper} {Q:aJ->Prop}
theorem Vs {a:Act} (f:bt C i a.tmps v A y z) {id:Nat} (q:aO i.g m=.ref id j) (c:ao i.h id=some F) {t:ag} {I:List (Int×t.den)} (w:c4 F.1 F.2 j (.mp t) (some (I,l))) {b:Nat} (H:a.eval m=.map (some b)) {e:Array MapEntry} (D:v.heap[b]?=some (.map e l)) (x:e[W]?=some O) {n:Int} (s:O.key=.int .i64 n):bE (ba A C.B) v i.h y z (.iV id j n) (.int .i64 (O.born:Int)):=by
 have d:=f.aO (a:=a) m;rw[q,H] at d;generalize G:Value.map (some b)=S at d;cases d with|ref o k=>
 rename_i R T Q L;rw[c] at o;obtain rfl:=ec o;obtain⟨rfl,N,E,_,u⟩:=f.jq c w k;rcases E.Ef with⟨O,_⟩|⟨p,P,K,M,J,_,rfl,rfl,_⟩
 ·cases O
 have r:b=p:=(by simpa[bH] using G);subst r;exact .iV c k (u b ab) (lM.2 D) x s
theorem Vt {V:a} {z:bm->Option a} {p:Operand} (cv:o.op=.mapEntry q p m) (a3:o.dst=some W) (a0:C.ok W) (d:pj E.tt st.h W q (aO st.g p) (aO st.g m) z=some V):dm E C o st (λy=>∃G,z G=some V/\y=G.app st):=by
 rintro j w ⟨r,gf,f6,s⟩ next f5 cs
 have v:=s.aO p;have e:=s.aO m;unfold pj at d;split at d
 case h_2=>cases d
 rename_i id d5 I;split at d
 case h_2=>cases d
 rename_i Z Q;split at d
 case h_2=>cases d
 rename_i fs n ap am;obtain⟨f3,ad,ex,fn,fp⟩:=ju.ok ap;split at d
 case h_2=>cases d
 rename_i t d0;split at d
 case h_2=>cases d
 rename_i ft d1;cases u:a2 fs t with
 |false=>rw[u] at d;cases d
 |true=>
 rw[u] at d;simp only[cond_true] at d;obtain⟨d4,bs,f⟩:=bZ.1 d;obtain⟨ge,k,i⟩:=bZ.1 f;obtain⟨Y,T,J⟩:=bZ.1 i;clear d f i;cases d4 with
 |none=>cases k
 |some d6=>
 obtain⟨l,c⟩:=d6;rw[I] at v;rw[am] at e;generalize S:j.eval p=gl at v;generalize ci:j.eval m=gc at e;cases e with|val em=>
 obtain⟨_,rfl⟩:=em;cases v with|ref R O=>
 rw[Q] at R;cases R;obtain⟨b,A,L,rfl,f7,M,K,bl⟩:=s.A4 Q O (g3 bs);have:=O.ty;rw[d0] at this;cases this;obtain⟨f9,f2,fz,fT,f0,f1⟩:=s8 (fp.lay u) d1;have d2:∀w,(zeroValue ad).run E.P w=.ok (bH t f2.cells.toList) w:=λw=>(by rw[<-f0];simp[zeroValue,typeInfo,fz,fT]);have U:=f1 (ba r C.B) w;obtain⟨H,f4,F,y,f8,ar,d7,d8,d9,el⟩:=K.entry (P:=E.P) ex fn n U.len U d2;have co:iG (α:=t.den) (some (l,c)) n=eg l n:=rfl;rw[co] at k J;simp only[pg,bI] at k;subst k;generalize(bif (eg l n).isSome then c else c+1)=D at*;generalize(eg l n).getD ft=X at*;obtain⟨eq,an,N⟩:=bl (d9 (λx m e=>⟨e,M x m e⟩)) el (lm T);have ds:(execOp j.eval o).run E.P w=.ok (.value (.tuple #[bH t F,goInt ((y:Nat):Int)])) (eZ w b H D):=(by simp only[execOp,cv,S,ci,Sem.run_bind];have this:∀t:ag,bH (.mp t) [Value.map (some b)]=.map (some b):=λ_=>rfl;rw[this,show bH (.int .i64) [Value.int .i64 n]=.int .i64 n from rfl,ar];rfl);unfold Oper.wp;rw[ds];show next (j.put o.dst _) _
 rw[a3];have ce:ao ((id,(⟨Z.1,Y⟩:aC))::del [id] st.h) id=some ⟨Z.1,Y⟩:=(by rw[bU,if_pos rfl]);have dl:aN (ba r C.B) (eZ w b H D) t F X []:=d7.mono (λx m e=>⟨e,BJ (M x m e)⟩) ab;have a4:=Vs N (Yf I) ce (dB.jq (lm T)) S (lR K.h) d8 (n:=n) rfl;refine cs _ _ _ ⟨_,J,?_⟩ rfl ⟨r,eq,an,N.put a0 (av:=.dw [.val t X,.iV id d5 n]) ?_⟩
 ·rfl
 refine .dw rfl (λd3 av gi f i=>?_)
 match d3 with
 |0=>simp at f i;subst f;subst i;exact .val dl
 |1=>simp at f i;subst f;subst i;exact a4
 |n+2=>simp at f
theorem Te {N:a} {x:bm->Option a} {k j:Operand} (bl:o.op=.entryStore q k m j) (am:o.dst=none) (d:o8 E.tt st.h q (aO st.g k) (aO st.g m) (aO st.g j) x=some N):dm E C o st (λm=>∃y,x y=some N/\m=y.app st):=by
 rintro e w ⟨Q,f2,ft,i⟩ next fs a4
 have v:=i.aO k;have r:=i.aO m;have u:=i.aO j;unfold o8 at d;split at d
 case h_2=>cases d
 rename_i id d4 ds d5 d3 V T;cases f:(Nat.beq ds id&&j6 d5 d4) with
 |false=>rw[f] at d;cases d
 |true=>
 rw[f] at d;rw[bd] at f;obtain rfl:=er f.1;obtain rfl:=j6.ok f.2;simp only[cond_true] at d;unfold my at d;simp only at d;split at d
 case h_2=>cases d
 rename_i ge s;split at d
 case h_2=>cases d
 rename_i eq f1 gc f8 ad B U;simp only[al.val.injEq,heq_eq_eq,true_and] at B;subst B;obtain⟨ex,fp,el,em,f4⟩:=ju.ok ad;split at d
 case h_2=>cases d
 rename_i t ci;cases H:a2 eq t with
 |false=>rw[H] at d;cases d
 |true=>
 rw[H] at d;simp only[cond_true] at d;split at d
 case h_2=>cases d
 rename_i f7 cv;obtain⟨d2,ap,D⟩:=bZ.1 d;obtain⟨f0,n,F⟩:=bZ.1 D;obtain⟨f9,dl,X⟩:=bZ.1 F;clear d D F;cases d2 with
 |none=>cases n
 |some d6=>
 obtain⟨l,c⟩:=d6;cases iR cv;rw[V] at v;rw[T] at r;rw[U] at u;generalize cs:e.eval k=f6 at v;generalize ce:e.eval m=f3 at r;generalize co:e.eval j=f5 at u;cases u with|val O=>
 cases r with|iV M a3 fz J av a0=>
 rw[s] at M;cases M;cases v with|ref K p=>
 rw[s] at K;cases K;obtain⟨b,A,L,rfl,fT,Y,G,an⟩:=i.A4 s p (g3 ap);have:=p.ty;rw[ci] at this;cases this;obtain⟨aj,_,z⟩:=p.ih a3;simp only[fK,Value.map.injEq,bI,and_true] at z;subst z;rw[lM.2 G.h] at J;cases J;obtain⟨S,fn,ar,d7,d8⟩:=G.S9 (P:=E.P) av a0 el em O.len O;simp only[pg,bI] at n;subst n;generalize(bif (eg l d3).isSome then c else c+1)=R at*;obtain⟨d9,W,Z⟩:=an (d7 (λd1 d0 I=>⟨I,Y d1 d0 I⟩)) d8 (lm dl);unfold Oper.wp;have bs:(execOp e.eval o).run E.P w=.ok .skip (eZ w b S R):=(by have this:∀t:ag,bH (.mp t) [Value.map (some b)]=.map (some b):=λ_=>rfl;simp only[execOp,bl,cs,ce,co,Sem.run_bind];rw[this,ar];rfl);rw[bs];show next (e.put o.dst undef) _
 rw[am];refine a4 _ _ _ ⟨_,X,?_⟩ rfl ⟨Q,d9,W,Z⟩;rfl
end
end
section
structure Ru where
 c:Code
 n:Nat
 pin:Option cY
 ds:cY
 α:Type
 f:aJ->Option α
 g:aJ->α->aJ
structure fq where
 tt:List (TypeId×ag)
 BR:List (Nat×aB)
 an:List (Nat×ag)
 n:Nat
 pin:cY
 kg:List (Nat×al)
 m6:c0
 ZW:Option cy
 aE:cR
 abq:List Ru
 jU:List rD
def FL (b:Program) (c:TypeId):Prop:=∃a e d,b.info? c=some a/\a.size=1/\a.zero=some e/\e.cells.size=1/\b.underlying c=some d/\(match d with|.struct _|.array _ _=>true|_=>false)=false
def wV:List fC->List al->Bool
 |.c d _::a,.dg b _::as=>Nat.beq b d&&wV a as
 |.c _ _::_,_=>false
 |_::a,_::as=>wV a as
 |_,_=>true
def qL:List (Nat×aB)->Nat->List al->Option aB
 |[],_,_=>none
 |(k,F)::l,f,as=>bif Nat.beq k f&&(wV F.ps as&&(ip 0 F.ps).isNone) then some F else qL l f as
theorem D0:∀{e:List (Nat×aB)} {d:Nat} {as:List al} {c:aB},qL e d as=some c->∃b,(b,c)∈e
 |[],_,_,_,a=>by cases a
 |(b,G)::e,d,as,c,a=>by
  simp only[qL] at a;cases f:(Nat.beq b d&&(wV G.ps as&&(ip 0 G.ps).isNone)) with
  |true=>rw[f] at a;cases a;exact⟨b,ab⟩
  |false=>
   rw[f] at a;obtain⟨h,g⟩:=D0 a;exact⟨h,by simp[g]⟩
theorem D1:∀{e:List (Nat×aB)} {d:Nat} {as:List al} {c:aB},qL e d as=some c->ip 0 c.ps=none
 |[],_,_,_,a=>by cases a
 |(k,G)::e,d,as,c,a=>by
  simp only[qL] at a;cases b:(Nat.beq k d&&(wV G.ps as&&(ip 0 G.ps).isNone)) with
  |true=>
   rw[b] at a;cases a;simp only[bd] at b;exact Option.isNone_iff_eq_none.1 b.2.2
  |false=>
   rw[b] at a;exact D1 a
def se (ic:fq) (a:l6) (b:a.den):aJ:=⟨ic.kg++ml a.g b,sd a.h (sf a.g b)⟩
def fx (b:Nat) (c:cY) (a:Nat):Bool:=Nat.blt a b&&!(db a c)
def aj (ic:fq) {A:Type} (a:Operand->al) (g:List (Nat×aC)) (r:Oper) (c:bm->Option A):Option A:=
 match r.dst with
 |none=>match r.op with
  |.store d e v=>pz ic.tt g d (a e) (a v) c
  |.mapUpdate d e o v=>my ic.tt g d (a e) (a o) (a v) c
  |.insert d e o v=>my ic.tt g d (a e) (a o) (a v) c
  |.entryStore d e F v=>o8 ic.tt g d (a e) (a F) (a v) c
  |.call {callee:=.builtin .delete,args:=xs,argTypes:=s}=>match xs.toList,s.toList with
   |[e,o],[d,_]=>pi ic.tt g d (a e) (a o) c
   |_,_=>none
  |_=>none
 |some b=>
  bif fx ic.n ic.pin b then
  match r.op with
  |.pick y e i=>match a y with
   |.val .bool j=>(match a e,a i with
    |.val k u,.val H v=>match gA (τ:=H) k v with
     |some v=>c ⟨some (b,.val k (bif j then u else v)),[],[],[]⟩
     |none=>none
    |u,v=>match j with
     |true=>c ⟨some (b,u),[],[],[]⟩
     |false=>c ⟨some (b,v),[],[],[]⟩)
   |_=>none
  |.call {callee:=.value z,args:=xs,argTypes:=_}=>match a z with
   |.dg l m=>
    match qL ic.BR l (xs.toList.map a++m) with
    |none=>none
    |some h=>bif Nat.beq h.f l then
     iD g (pA (xs.toList.map a++m) h.ps) h.ps (xs.toList.map a++m) λq=>(h.u2 q).bind λj=>bif lH b ⟨[],g⟩ (xs.toList.map a++m) (eP h.ps q j) (hm h.rs (gL h.ps j)) then
      c ⟨some (b,sV b (hm h.rs (gL h.ps j))),eB (xs.toList.map a++m) (eP h.ps q j),uy (kP (xs.toList.map a++m) (eP h.ps q j)),il (xs.toList.map a++m) (eP h.ps q j)++ho b (g5 (hm h.rs (gL h.ps j))) 0 (hm h.rs (gL h.ps j))⟩ else none
     else none
   |_=>none
  |.call {callee:=.builtin .append,args:=xs,argTypes:=s}=>match xs.toList,s.toList with
   |[e,i],[d,x]=>bif Nat.beq d x then me ic.tt ic.an g b d (a e) (a i) c else none
   |_,_=>none
  |.call {callee:=.builtin .copy,args:=xs,argTypes:=s}=>match xs.toList,s.toList with
   |[e,i],[d,_]=>oT ic.tt g b d (a e) (a i) c
   |_,_=>none
  |.assign e=>match a e with
   |.val k i=>c ⟨some (b,.val k i),[],[],[]⟩
   |.dg l m=>c ⟨some (b,.dg l m),[],[],[]⟩
   |.addr id E=>c ⟨some (b,.addr id E),[],[],[]⟩
   |.bP v=>match ao ic.an b with
    |none=>c ⟨some (b,.bP v),[],[],[]⟩
    |some k=>match k.pure&&mY k v with
     |true=>(hf k v.cells.toList).bind λi=>c ⟨some (b,.val k i),[],[],[]⟩
     |false=>(nS ic.an g b (.bP v)).bind c
   |v=>(nS ic.an g b v).bind c
  |.build d w=>p8 ic.tt ic.an g a b d w.toList c
  |.mapEntry d e o=>pj ic.tt g b d (a e) (a o) c
  |.box d e=>rM ic.tt ic.an g b d (a e) c
  |.buildSlice d C w=>qa ic.tt ic.an g a b d C w.toList c
  |_=>match iW ic.tt ic.an g a b r.op with
   |.dv t=>c ⟨some (b,t),[],[],[]⟩
   |.opt _ i l=>i.bind λp=>c ⟨some (b,l p),[],[],[]⟩
   |.new _ i G B=>bif Nat.beq B b then i.bind λp=>c ⟨some (b,.ref b []),[],[],[(b,G p)]⟩ else none
   |.no=>match e7 ic.tt ic.an g a b r.op with
    |.dv t D=>c ⟨some (b,t),[],[],D⟩
    |.part _ I l=>(pick I).bind λp=>c ⟨some (b,(l p).1),[],[],(l p).2⟩
    |.bad=>none
  else none
def lI (b:List (Nat×aC)) (a:cY):Bool:=a.all λid=>match ao b id with|some c=>DB c.1|none=>false
def iz (ic:fq) {A:Type} (e:Operand->al) (b:List (Nat×aC)) (c:Oper) (f:bm->Option A):Option A:=
 match kL ic.m6 (so c) e (pD c.op) with
 |[]=>aj ic e b c f
 |F=>bif lI b F then aj ic (λh=>g2 b F (e h)) (del F b) c λa=>bif a.keep.all (λg=>!db g.1 F) then f ⟨a.d,F++a.S,a.keep,a.put⟩ else none else none
def ms:fC->Bool
 |.m _=>true
 |_=>false
def Fk (ic:fq) (a:Operand->al) (e:Oper):Option (Nat×List aV):=match e.op with
 |.call {callee:=.value z,args:=xs,argTypes:=_}=>match a z with
  |.dg d b=>match qL ic.BR d (xs.toList.map a++b) with
   |some c=>ra (xs.toList.map a++b) (c.ps.map ms)
   |none=>none
  |_=>none
 |_=>none
def Db (ic:fq) {A:Type} (id:Nat) (k:aV) (j:List aV) (c:Operand->al) (l:List (Nat×aC)) (p:Oper) (r:bm->Option A):Option A:=
 match p.dst with
 |none=>none
 |some g=>
  bif fx ic.n ic.pin g then
  match p.op with
  |.call {callee:=.value m,args:=xs,argTypes:=_}=>match c m with
   |.dg o d=>
    match qL ic.BR o (xs.toList.map c++d) with
    |none=>none
    |some a=>
     bif Nat.beq a.f o then
     match ao l id with
     |none=>none
     |some h=>match dI h.1 (k::j) with
      |none=>none
      |some i=>match gg h.1 h.2 (k::j) i with
       |none=>none
       |some q=>
        match ea ((id,⟨i,q⟩)::del [id] l) (pA (kU id (xs.toList.map c++d) (a.ps.map ms)) a.ps) a.ps (kU id (xs.toList.map c++d) (a.ps.map ms)) with
        |none=>none
        |some e=>(a.u2 e).bind λb=>bif lH g ⟨[],(id,⟨i,q⟩)::del [id] l⟩ (kU id (xs.toList.map c++d) (a.ps.map ms)) (eP a.ps e b) (hm a.rs (gL a.ps b))&&(db id (eB (kU id (xs.toList.map c++d) (a.ps.map ms)) (eP a.ps e b))&&db id (kP (kU id (xs.toList.map c++d) (a.ps.map ms)) (eP a.ps e b))) then
         match ao (il (kU id (xs.toList.map c++d) (a.ps.map ms)) (eP a.ps e b)++ho g (g5 (hm a.rs (gL a.ps b))) 0 (hm a.rs (gL a.ps b))) id with
         |none=>none
         |some s=>match gA i s.2 with
          |none=>none
          |some t=>(kT h.1 h.2 (k::j) i t).bind λm=>
           r ⟨some (g,sV g (hm a.rs (gL a.ps b))),eB (kU id (xs.toList.map c++d) (a.ps.map ms)) (eP a.ps e b),(id,k::j)::uy (kP (kU id (xs.toList.map c++d) (a.ps.map ms)) (eP a.ps e b)),(id,⟨h.1,m⟩)::(il (kU id (xs.toList.map c++d) (a.ps.map ms)) (eP a.ps e b)++ho g (g5 (hm a.rs (gL a.ps b))) 0 (hm a.rs (gL a.ps b)))⟩
         else none
     else none
   |_=>none
  |_=>none
  else none
def Em (ic:fq) (b:Operand->al) (c:Oper):Option cI:=match c.dst,c.op with
 |some a,.binOp .eql d e g _=>match eY ic.tt d,b e,b g with
  |some _,.val (.a7 _ h) f,.bP (.slice none 0 0)=>bif fx ic.n ic.pin a then some (a,List.length (α:=h.den) f) else none
  |_,_,_=>none
 |_,_=>none
def Ix (tt:List (TypeId×ag)) (a:TypeId):Bool:=match ao tt a with|some (.ptr _ _)=>true|_=>false
def El (b:List (Nat×aC)):al->Option Bool
 |.val (.ptr _ a) d=>some (Option.isNone (α:=a.den) d)
 |.ref id c=>match ao b id with
  |some a=>match dI a.1 c with
   |some (.optr _)=>some false
   |_=>none
  |none=>none
 |_=>none
def ET (ic:fq) (c:Operand->al) (f:List (Nat×aC)) (d:Oper):Option (Nat×Bool):=match d.dst,d.op with
 |some a,.binOp g e h i _=>match Ix ic.tt e,El f (c h),c i with
  |true,some b,.bP (.pointer none)=>bif fx ic.n ic.pin a then(match g with
   |.eql=>some (a,b)
   |.neq=>some (a,!b)
   |_=>none) else none
  |_,_,_=>none
 |_,_=>none
def Fo (ic:fq) (f:Operand->al) (d:Oper):Option (Nat×rD×Int):=match d.dst,d.op with
 |some c,.indexAddr e (.global h) g=>match ic.jU.find? (λa=>Nat.beq a.b h&&Nat.beq a.T e),f g with
  |some a,.val (.int _) i=>bif fx ic.n ic.pin c then some (c,a,i) else none
  |_,_=>none
 |_,_=>none
def i1 (ic:fq) {A:Type} (a:aJ) (d:Oper) (b:aJ->Option A):Option A:=
 match Fo ic (aO a.g) d with
 |some (c,i,f)=>(ay i.xs f).bind λn=>b ⟨(c,.val (.ptr .bA (.int i.k)) (some n))::a.g,a.h⟩
 |none=>match ET ic (aO a.g) a.h d with
 |some (c,j)=>b ⟨(c,.val .bool j)::a.g,a.h⟩
 |none=>match Em ic (aO a.g) d with
 |some (c,f)=>mz f (b ⟨(c,.val .bool true)::a.g,a.h⟩) (b ⟨(c,.val .bool false)::a.g,a.h⟩)
 |none=>match Fk ic (aO a.g) d with
  |some (id,m::l)=>Db ic id m l (aO a.g) a.h d λe=>b (e.app a)
  |_=>iz ic (aO a.g) a.h d λe=>b (e.app a)
def jr (ic:fq) {A:Type} (c:Array Oper):cY->aJ->(aJ->Option A)->Option A
 |[],a,b=>b a
 |i::e,a,b=>match c[i]? with
  |none=>none
  |some f=>match f.guard with
   |none=>i1 ic a f λk=>jr ic c e k b
   |some (
    l,rh)=>match(c[l]?).bind (·.dst),f.dst with
    |some j,some d=>match gt a.g j with
     |.val .bool m=>bif fx ic.n ic.pin d then
      (match m==rh with
      |true=>i1 ic ⟨(j,.val .bool rh)::a.g,a.h⟩ f λk=>jr ic c e k b
      |false=>jr ic c e ⟨(d,.bP undef)::(j,.val .bool (!rh))::a.g,a.h⟩ b) else none
     |.bP (.tuple _)=>bif fx ic.n ic.pin d then jr ic c e ⟨(d,.bP undef)::a.g,a.h⟩ b else none
     |_=>none
    |_,_=>none
section
variable {E:dW} {C:dn} {ic:fq} {A:Type}
def fq.ac (E:dW) (C:dn) (ic:fq):Prop:=ic.tt=E.tt/\ic.n=C.n/\ic.pin=C.pin/\((∀b∈ic.BR,aA E b.2)/\rB C ic.ZW/\(∀a∈ic.aE,FL E.P a)/\jC E C.I0 C.w0/\ic.jU=E.glob)/\nC C ic.kg
theorem fx.ok (c:ic.ac E C) {d:Nat} (b:fx ic.n ic.pin d=true):C.ok d:=by obtain⟨_,a,e,_,_⟩:=c;rw[a,e] at b;simp only[fx,bd] at b;exact⟨eM b.1,λf=>by have a:=b.2;rw[ek.2 f] at a;cases a⟩
theorem e3.same {d:cQ} (k:∀b,gt X.g b=gt i.g b) (c:X.h=i.h) (j:e3 C i d v):e3 C X d v:=by obtain⟨e,l,f,a⟩:=j;exact⟨e,l,f,{a with tree:=by rw[c];exact a.tree,dis:=by rw[c];exact a.dis,tmp:=λb=>by rw[c,k];exact a.tmp b}⟩
theorem gP.same {f:Array Oper} {e:cY} {a b:aJ} {c:aJ->Prop} (l:∀d,gt b.g d=gt a.g d) (m:b.h=a.h) (j:gP E C f e b c):gP E C f e a c:=
 λi n k=>j i n (k.same l m)
theorem bm.Gw:(bm.mk (some (b,d)) D f e).app i=⟨(b,d)::kill D f i.g,e++del D i.h⟩:=by show aJ.mk ((b,d)::lL D f i.g) (e++o6 D i.h)=_;rw[n7,sa]
theorem Hy (O:ic.ac E C) {t:Oper} {st:aJ} {v:bm->Option A} {w:A} (a:aj ic (aO st.g) st.h t v=some w):dm E C t st (λx=>∃b,v b=some w/\x=b.app st):=by
 obtain⟨k,el,em,d0,_⟩:=id O;unfold aj at a;split at a
 ·rename_i e;split at a
  ·rename_i j d L c;rw[k] at a;exact aab c e (aaa a (λb s=>⟨b,s,rfl⟩))
  ·rename_i j d Q L c;rw[k] at a;exact Jk (.inl c) e a
  ·rename_i j d Q L c;rw[k] at a;exact Jk (.inr c) e a
  ·rename_i j d x L c;rw[k] at a;exact Te c e a
  ·rename_i p y c;split at a
   case h_2=>cases a
   rename_i d Q j a4 aj ad;rw[k] at a;obtain rfl:p=#[d,Q]:=(by cases p;simp_all);obtain rfl:y=#[j,a4]:=(by cases y;simp_all);exact Vl c e a
  cases a
 rename_i F e;cases Y:fx ic.n ic.pin F with
 |false=>rw[Y] at a;cases a
 |true=>
 rw[Y] at a;have i:=fx.ok O Y;simp only[cond_true] at a;split at a
 ·rename_i d9 d u c;split at a
  case h_2=>cases a
  rename_i q I;have V:∀D,(q=true->D=aO st.g d)->(q=false->D=aO st.g u)->v ⟨some (F,D),[],[],[]⟩=some w->dm E C t st (λx=>∃b,v b=some w/\x=b.app st):=by
   clear a;intro D ce ci z;refine dm.eval (an:=ic.an) e i ?_;rw[c];simp only[e7,Bs,I];refine⟨q,rfl,_,z,?_⟩;cases q
   ·rw[ci rfl];rfl
   rw[ce rfl];rfl
  split at a
  ·rename_i d8 ft fT L d1 Z;split at a
   case h_2=>cases a
   rename_i d7 d2;cases iR d2;refine V _ ?_ ?_ a
   ·intro b;rw[d1,b];rfl
   intro b;rw[Z,b];rfl
  cases q
  ·exact V _ (λb=>by cases b) (λ_=>rfl) a
  exact V _ (λ_=>rfl) (λb=>by cases b) a
 ·rename_i fz p _ c;split at a
  case h_2=>cases a
  rename_i N av d4;split at a
  ·cases a
  rename_i M am;cases o:Nat.beq M.f N with
  |false=>rw[o] at a;cases a
  |true=>
  rw[o] at a;obtain rfl:=er o;simp only[cond_true,lK] at a;obtain⟨l,co,a⟩:=bZ.1 a;obtain⟨q,ds,a⟩:=bZ.1 a;cases I:lH F ⟨[],st.h⟩ (p.toList.map (aO st.g)++av) (eP M.ps l q) (hm M.rs (gL M.ps q)) with
  |false=>rw[I] at a;cases a
  |true=>
  rw[I] at a;obtain⟨eq,dl⟩:=D0 am;obtain⟨cs,cv⟩:=d0.1 _ dl;refine dm.call c d4 e i cs (cv l q ds) (by rw[xT];exact D1 am) O.2.2.2.2.1 O.2.2.2.1.2.2.2.1 ?_ I ⟨_,a,?_⟩
  ·rw[Fr];exact n2 co
  rw[bm.Gw];rfl
 ·rename_i p y c;split at a
  case h_2=>cases a
  rename_i d u j R aj ad;cases o:Nat.beq j R with
  |false=>rw[o] at a;cases a
  |true=>
  rw[o] at a;obtain rfl:=er o;have S:p=#[d,u]:=(by cases p;simp_all);have T:y=#[j,j]:=(by cases y;simp_all);subst S;subst T;rw[k] at a;exact RJ c e i a
 ·rename_i p y c;split at a
  case h_2=>cases a
  rename_i d u j R aj ad;have S:p=#[d,u]:=(by cases p;simp_all);have T:y=#[j,R]:=(by cases y;simp_all);subst S;subst T;rw[k] at a;exact dm.copy c e i a
 ·rename_i d c;have U:DM (aO st.g d)=true->v ⟨some (F,aO st.g d),[],[],[]⟩=some w->dm E C t st (λx=>∃b,v b=some w/\x=b.app st):=λZ z=>by
   refine dm.eval (an:=ic.an) e i ?_;rw[c];simp only[e7,Z,cond_true];exact⟨_,z,rfl⟩
  have as:(nS ic.an st.h F (aO st.g d)).bind v=some w->dm E C t st (λx=>∃b,v b=some w/\x=b.app st):=λz=>(by obtain⟨b,s,z⟩:=bZ.1 z;exact dm.RP c e i (RQ s ⟨b,z,rfl⟩));split at a
  ·rename_i d8 u m;exact U (by rw[m];rfl) (by rw[m];exact a)
  ·rename_i N av m;exact U (by rw[m];rfl) (by rw[m];exact a)
  ·rename_i id fp m;rintro l B ⟨a3,d6,bs,H⟩ next bl W
   have G:=H.aO d;have X:(execOp l.eval t).run E.P B=.ok (.value (l.eval d)) B:=(by simp[execOp,c]);unfold Oper.wp;rw[X];show next (l.put t.dst (l.eval d)) B
   rw[e];refine W _ _ _ ⟨_,a,rfl⟩ rfl ⟨_,_,_,H.put i ?_⟩;rw[m] at G;exact G
  ·rename_i L m;split at a
   ·exact U (by rw[m];rfl) (by rw[m];exact a)
   split at a
   ·rename_i ap;simp only[bd] at ap;obtain⟨u,d3,a⟩:=bZ.1 a;rintro l B ⟨a3,d6,bs,H⟩ next bl W
    have G:=H.aO d;have X:(execOp l.eval t).run E.P B=.ok (.value (l.eval d)) B:=(by simp[execOp,c]);unfold Oper.wp;rw[X];show next (l.put t.dst (l.eval d)) B
    rw[e];refine W _ _ _ ⟨_,a,rfl⟩ rfl ⟨_,_,_,H.put i ?_⟩;rw[m] at G;generalize l.eval d=d7 at G;cases G;rw[<-mY.ok ap.2];exact .val (nX d3)
   exact as (by rw[m];exact a)
  exact as a
 ·rename_i j d5 c;rw[k] at a;exact R1 c e i a (λb s=>⟨b,s,rfl⟩)
 ·rename_i j d Q c;rw[k] at a;exact Vt c e i a
 ·rename_i j d c;rw[k] at a;exact R4 c e i a (λb s=>⟨b,s,rfl⟩)
 ·rename_i j ex d5 c;rw[k] at a;exact R8 c e i a (λb s=>⟨b,s,rfl⟩)
 split at a
 ·rename_i D r;refine dm.eval (an:=ic.an) e i ?_;rw[<-k];exact Dj (by rw[r];exact⟨_,a,rfl⟩)
 ·rename_i a0 u N r;refine dm.eval (an:=ic.an) e i ?_;rw[<-k];obtain⟨K,J,a⟩:=bZ.1 a;exact Dj (by rw[r];exact⟨K,J,_,a,rfl⟩)
 ·rename_i a0 u fs b r;cases o:Nat.beq b F with
  |false=>rw[o] at a;cases a
  |true=>
  rw[o] at a;obtain rfl:=er o;obtain⟨K,J,a⟩:=bZ.1 a;refine dm.eval (an:=ic.an) e i ?_;rw[<-k];exact Dj (by rw[r];exact⟨K,J,_,a,rfl⟩)
 refine dm.eval (an:=ic.an) e i ?_;rw[k] at a;split at a
 ·rename_i D fn r;rw[r];exact⟨_,a,rfl⟩
 ·rename_i a0 f0 N r;rw[r];obtain⟨K,J,a⟩:=bZ.1 a;exact⟨K,Yy J,_,a,rfl⟩
 cases a
theorem dm.mono {P:aJ->Prop} (e:dm E C h i P) (j:∀a,P a->u a):dm E C h i u:=
 λc l f next b g=>e c l f next b (λa d m k=>g a d m (j a k))
theorem Zv {keep:List (Nat×List aV)} {a:al} (c:jW keep a=true):∃id,a.ids=[id]/\∃b∈keep,b.1=id:=by
 have e:∀(id:Nat) (g:Nat×List aV->Bool),(keep.any λb=>Nat.beq b.1 id&&g b)=true->∃b∈keep,b.1=id:=(by intro id g j;obtain⟨b,f,h⟩:=nD.1 j;simp only[bd] at h;exact⟨b,f,er h.1⟩);cases a with
 |ref id d=>
  cases d with
  |nil=>
   obtain⟨b,f,i⟩:=nD.1 (show(keep.any λb=>Nat.beq b.1 id)=true from c);exact⟨id,rfl,b,f,er i⟩
  |cons m d=>exact⟨id,rfl,e id _ c⟩
 |addr id d=>exact⟨id,rfl,e id _ c⟩
 |view id d l k=>exact⟨id,rfl,e id _ c⟩
 |_=>cases c
theorem B1 {F S:cY} {a:al}:a.dJ (F++S)=(a.dJ F||a.dJ S):=by
 simp only[al.dJ];rw[lX];simp only[nD,fZ];constructor
 ·rintro⟨c,b,d⟩;rcases dO.1 (ek.1 d) with e|e
  ·exact .inl ⟨c,b,ek.2 e⟩
  exact .inr ⟨c,b,ek.2 e⟩
 rintro(⟨c,b,d⟩|⟨c,b,d⟩)
 ·exact⟨c,b,ek.2 (mO _ (ek.1 d))⟩
 exact⟨c,b,ek.2 (k2 _ (ek.1 d))⟩
theorem G6:(al.dg b L).dJ g=L.any λa=>a.dJ g:=by
 show(al.mq L).any _=_
 induction L with
 |nil=>rfl
 |cons a L c=>simp only[al.mq,List.any_append,List.any_cons,c,al.dJ]
theorem Lz (e:d.dJ D=false):hL (D++g) f d=hL g f d:=by
 cases d with
 |dg o p=>
  rw[G6,th] at e;rw[lX];simp only[hL,eI];constructor<;>intro b i j<;>have:=b i j<;>rw[B1,Bool.eq_false_iff.2 (e i j)] at*<;>simpa using this
 |app id q s r h=>
  have m:=FB e;have k:∀a∈h,db a (D++g)=db a g:=λa c=>(by have n:a∉D:=m a (e2 _ c);rw[lX,ek,ek,dO];exact⟨λb=>b.resolve_left n,.inr⟩);have l:(h.all λa=>!(db a (D++g)))=h.all λa=>!(db a g):=(by rw[lX];simp only[eI];exact⟨λb a c=>by rw[<-k a c];exact b a c,λb a c=>by rw[k a c];exact b a c⟩);simp only[hL,l]
 |_=>rfl
theorem UB {F S:cY} {keep:List (Nat×List aV)} {a:al}:dt (F++S) keep a=.dead\/(a.dJ F=false/\dt (F++S) keep a=dt S keep a)\/(hL (F++S) keep a=true/\dt (F++S) keep a=a):=by
 have d:=B1 (F:=F) (S:=S) (a:=a);have c:a.dJ F=false->hL (F++S) keep a=hL S keep a:=Lz;unfold dt;rw[d];cases b:a.dJ F with
 |false=>right;left;rw[c b];simp
 |true=>
  cases hL (F++S) keep a<;>simp
theorem lI.ok (b:lI e g=true):∀id∈g,∃a,ao e id=some a/\DB a.1=true:=by
 intro id c;have:=eI.1 b id c;split at this
 ·rename_i a d;exact⟨a,d,this⟩
 cases this
theorem HA (ap:ic.ac E C) {Q:Oper} {Z:bm->Option A} {a0:A} (e:iz ic (aO i.g) i.h Q Z=some a0):dm E C Q i (λa3=>∃b,Z b=some a0/\a3=b.app i):=by
 unfold iz at e;split at e
 ·exact Hy ap e
 generalize kL ic.m6 (so Q) (aO i.g) (pD Q.op)=c at e;cases W:lI i.h c with
 |false=>rw[W] at e;cases e
 |true=>
 rw[W] at e;simp only[cond_true] at e;rw[<-T1 c i] at e;have n:=Hy (st:=qD c i) ap e;intro j d1 T next a4 ds
 obtain⟨d4,d7,d5,T⟩:=T;refine n j d1 (T.freeze (lI.ok W)) next a4 (λd8 bl d2 d0 co ce=>?_)
 obtain⟨b,O,rfl⟩:=d0;cases G:b.keep.all (λl=>!db l.1 c) with
 |false=>rw[G] at O;cases O
 |true=>
 rw[G] at O;have G:∀l∈b.keep,l.1∉c:=λl q y=>(by have:=eI.1 G l q;rw[ek.2 y] at this;cases this);refine ds _ bl d2 ⟨_,O,rfl⟩ co (ce.IM ?_ ?_)
 ·intro D;have u:∀j:al,dt (c++b.S) b.keep j=.dead\/dt (c++b.S) b.keep j=dt b.S b.keep (ff i.h c j):=by
   intro j;rcases UB (F:=c) (S:=b.S) (keep:=b.keep) (a:=j) with e|⟨n,o⟩|⟨n,o⟩
   ·exact .inl e
   ·right;rw[o];rcases ld i.h c j with⟨id,r,rfl,Y,_⟩|⟨_,k⟩|⟨k,_⟩
    ·simp[al.dJ,al.ids,ek.2 Y] at n
    ·rw[n] at k;cases k
    rw[k]
   have X:∀(id:Nat),(∃m∈b.keep,m.1=id)->db id c=false:=λid ⟨m,t,b⟩=>by
    cases y:db id c
    ·rfl
    exact absurd (b▸ek.1 y) (G m t)
   have M:hL (c++b.S) b.keep j=hL b.S b.keep j->∀(id:Nat),j.ids=[id]->(∃m∈b.keep,m.1=id)->dt (c++b.S) b.keep j=.dead\/dt (c++b.S) b.keep j=dt b.S b.keep (ff i.h c j):=by
    intro ci id dl t;have z:j.dJ c=false:=(by simp[al.dJ,dl,X id t]);right;rcases ld i.h c j with⟨l,r,rfl,Y,_⟩|⟨_,k⟩|⟨k,_⟩
    ·simp[al.dJ,al.ids,ek.2 Y] at z
    ·rw[z] at k;cases k
    rw[k,o];unfold dt;rw[show hL b.S b.keep j=true by rw[<-ci];exact n];simp
   have N:∀(id:Nat) (ad:Nat×List aV->Bool),(b.keep.any λm=>Nat.beq m.1 id&&ad m)=true->∃m∈b.keep,m.1=id:=(by intro id ad cs;obtain⟨m,t,o⟩:=nD.1 cs;simp only[bd] at o;exact⟨m,t,er o.1⟩);cases j with
   |ref id f=>
    cases f with
    |nil=>
     obtain⟨m,t,s⟩:=nD.1 (show(b.keep.any λm=>Nat.beq m.1 id)=true from n);exact M rfl id rfl ⟨m,t,er s⟩
    |cons a3 f=>exact M rfl id rfl (N id _ n)
   |addr id f=>exact M rfl id rfl (N id _ n)
   |view id f H q=>exact M rfl id rfl (N id _ n)
   |dg w p=>
    have an:=eI.1 n;have z:(al.dg w p).dJ c=false:=(by rw[G6,th];intro K U V;have s:=an K U;rw[B1,V] at s;obtain⟨id,aj,t⟩:=Zv (keep:=b.keep) (a:=K) (by simpa using s);rw[al.dJ,aj] at V;simp[X id t] at V);right;rcases ld i.h c (.dg w p) with⟨l,r,ar,_⟩|⟨_,k⟩|⟨k,_⟩
    ·cases ar
    ·rw[z] at k;cases k
    rw[k,o];unfold dt;have bs:hL b.S b.keep (.dg w p)=true:=eI.2 λK U=>(by have s:=an K U;rw[B1,Bool.not_or,fZ,bd] at s;rw[fZ];exact s.imp (λe=>e.2) (λe=>e));rw[bs];simp
   |app id f x B v=>
    have R:((v.all λl=>!(db l (c++b.S)))&&b.keep.any λm=>Nat.beq m.1 id&&jk m.2 f)=true:=n;rw[bd] at R;have cv:=X id (N id _ R.2);have z:(al.app id f x B v).dJ c=false:=by
     unfold al.dJ;rw[th];intro l q y;rcases dh.1 (show l∈id::v from q) with rfl|q
     ·rw[cv] at y;cases y
     have:=eI.1 R.1 l q;rw[ek.2 (mO _ (ek.1 y))] at this;cases this
    right;rcases ld i.h c (.app id f x B v) with⟨l,r,ar,_⟩|⟨_,k⟩|⟨k,_⟩
    ·cases ar
    ·rw[z] at k;cases k
    rw[k,o];unfold dt;rw[<-Lz z,n];simp
   |_=>cases n
  have av:∀j:al,vd (ef (c++b.S) b.keep j) (ef b.S b.keep (g2 i.h c j)):=by
   intro j;cases j with
   |dw p=>
    refine .inr (.inr ⟨_,_,rfl,rfl,ab,λl m el n o=>?_⟩);rw[eS] at n o;rw[eS] at o;obtain⟨d3,s,rfl⟩:=dZ.1 n;rw[s] at o;simp only[fB,bI] at o;subst o;exact u d3
   |ref id f=>
    have k:=u (.ref id f);have aj:ef b.S b.keep (g2 i.h c (.ref id f))=dt b.S b.keep (ff i.h c (.ref id f)):=by show ef b.S b.keep (ff i.h c (.ref id f))=_;rcases ld i.h c (.ref id f) with⟨l,r,_,_,_,e⟩|⟨e,_⟩|⟨e,_⟩<;>rw[e]<;>first|rfl|exact sp _ _ _
    rw[aj];exact k.imp (λe=>e) .inl
   |dead=>exact(u .dead).imp (λe=>e) .inl
   |val x m=>exact .inr (.inl (by
    simp[dt,ff,g2,ef,al.dJ,al.ids]))
   |bP d9=>exact .inr (.inl (by
    simp[dt,ff,g2,ef,al.dJ,al.ids]))
   |addr id f=>
    have aj:ef b.S b.keep (g2 i.h c (.addr id f))=dt b.S b.keep (ff i.h c (.addr id f)):=by show ef b.S b.keep (ff i.h c (.addr id f))=_;rcases ld i.h c (.addr id f) with⟨l,r,_,_,_,e⟩|⟨e,_⟩|⟨e,_⟩<;>rw[e]<;>first|rfl|exact sp _ _ _
    rw[aj];exact(u _).imp (λe=>e) .inl
   |view id f H q=>
    have aj:ef b.S b.keep (g2 i.h c (.view id f H q))=dt b.S b.keep (ff i.h c (.view id f H q)):=by show ef b.S b.keep (ff i.h c (.view id f H q))=_;rcases ld i.h c (.view id f H q) with⟨l,r,_,_,_,e⟩|⟨e,_⟩|⟨e,_⟩<;>rw[e]<;>first|rfl|exact sp _ _ _
    rw[aj];exact(u _).imp (λe=>e) .inl
   |iV id f P=>
    have aj:ef b.S b.keep (g2 i.h c (.iV id f P))=dt b.S b.keep (ff i.h c (.iV id f P)):=by show ef b.S b.keep (ff i.h c (.iV id f P))=_;rcases ld i.h c (.iV id f P) with⟨l,r,_,_,_,e⟩|⟨e,_⟩|⟨e,_⟩<;>rw[e]<;>first|rfl|exact sp _ _ _
    rw[aj];exact(u _).imp (λe=>e) .inl
   |app id f x B v=>
    have aj:ef b.S b.keep (g2 i.h c (.app id f x B v))=dt b.S b.keep (ff i.h c (.app id f x B v)):=by show ef b.S b.keep (ff i.h c (.app id f x B v))=_;rcases ld i.h c (.app id f x B v) with⟨l,r,_,_,_,e⟩|⟨e,_⟩|⟨e,_⟩<;>rw[e]<;>first|rfl|exact sp _ _ _
    rw[aj];exact(u _).imp (λe=>e) .inl
   |agg p=>
    have aj:ef b.S b.keep (g2 i.h c (.agg p))=dt b.S b.keep (ff i.h c (.agg p)):=by show ef b.S b.keep (ff i.h c (.agg p))=_;rcases ld i.h c (.agg p) with⟨l,r,_,_,_,e⟩|⟨e,_⟩|⟨e,_⟩<;>rw[e]<;>first|rfl|exact sp _ _ _
    rw[aj];exact(u _).imp (λe=>e) .inl
   |dg w p=>
    have aj:ef b.S b.keep (g2 i.h c (.dg w p))=dt b.S b.keep (ff i.h c (.dg w p)):=by show ef b.S b.keep (ff i.h c (.dg w p))=_;rcases ld i.h c (.dg w p) with⟨l,r,_,_,_,e⟩|⟨e,_⟩|⟨e,_⟩<;>rw[e]<;>first|rfl|exact sp _ _ _
    rw[aj];exact(u _).imp (λe=>e) .inl
  show vd (gt (bm.app ⟨b.d,c++b.S,b.keep,b.put⟩ i).g D) (gt (b.app (qD c i)).g D);obtain⟨L,J,I,d6⟩:=b;cases L with
  |none=>
   show vd (gt (lL (c++J) I i.g) D) (gt (lL J I (qD c i).g) D);rw[n7,n7,m9,m9,AJ];exact av _
  |some k=>
   obtain⟨L,am⟩:=k;show vd (gt ((L,am)::lL (c++J) I i.g) D) (gt ((L,am)::lL J I (qD c i).g) D);rw[hk,hk];split
   ·exact .inr (.inl rfl)
   rw[n7,n7,m9,m9,AJ];exact av _
 intro id;show ao (b.put++o6 (c++b.S) i.h) id=ao (b.put++o6 b.S (del c i.h)) id;rw[sa,sa,iF,iF,jY,jY,jY];by_cases n:id∈c<;>by_cases o:id∈b.S<;>simp[n,o]
theorem SZ (l:ic.ac E C) {v:Oper} {id:Nat} (m:Fk ic (aO i.g) v=some (id,T::j)) {w:bm->Option A} {F:A} (a:Db ic id T j (aO i.g) i.h v w=some F):dm E C v i (λT=>∃x,w x=some F/\T=x.app i):=by
 have U:=λc=>fx.ok l (d:=c);have P:=l.2.2.2.2.1;have Q:=l.2.2.2.1.2.2.2.1;obtain⟨a3,_,_,Y,_⟩:=l;unfold Db at a;split at a
 ·cases a
 rename_i c L;cases u:fx ic.n ic.pin c with
 |false=>rw[u] at a;cases a
 |true=>
 rw[u] at a;have M:=U c u;simp only[cond_true] at a;split at a
 case h_2=>cases a
 rename_i a0 G ci y;split at a
 case h_2=>cases a
 rename_i I D B;split at a
 ·cases a
 rename_i b r;cases s:Nat.beq b.f I with
 |false=>rw[s] at a;cases a
 |true=>
 rw[s] at a;obtain rfl:=er s;simp only[cond_true] at a;split at a
 ·cases a
 rename_i bs W;split at a
 ·cases a
 rename_i av a4;split at a
 ·cases a
 rename_i an Z;split at a
 ·cases a
 rename_i k J;obtain⟨e,S,a⟩:=bZ.1 a;have V:ra (G.toList.map (aO i.g)++D) (b.ps.map ms)=some (id,T::j):=(by unfold Fk at m;rw[y] at m;simp only[B,r] at m;exact m);generalize K:kU id (G.toList.map (aO i.g)++D) (b.ps.map ms)=o at*;cases t:lH c ⟨[],(id,⟨av,an⟩)::del [id] i.h⟩ o (eP b.ps k e) (hm b.rs (gL b.ps e)) with
 |false=>rw[t] at a;cases a
 |true=>
 rw[t] at a;cases p:db id (eB o (eP b.ps k e)) with
 |false=>rw[p] at a;cases a
 |true=>
 rw[p] at a;cases q:db id (kP o (eP b.ps k e)) with
 |false=>rw[q] at a;cases a
 |true=>
 rw[q] at a;simp only[Bool.and_self,cond_true] at a;split at a
 ·cases a
 rename_i ce X;split at a
 ·cases a
 rename_i H ad;obtain⟨ap,am,a⟩:=bZ.1 a;obtain⟨bl,R⟩:=D0 r;obtain⟨N,O⟩:=Y.1 _ R;refine dm.sub y B L M N (O k e S) (by rw[xT];exact D1 r) P Q W (g3 Z) V K.symm ?_ t (ek.1 p) (ek.1 q) (y':=H) (z:=ap) ?_ (lm am) ⟨_,a,?_⟩
 ·rw[Fr];exact n2 J
 ·rw[X];exact congrArg some (iR ad)
 rw[bm.Gw]
theorem ZI (b:World) (e:Nat) (a:Option Addr) (g d:Nat) (f:s.underlying c=some (.slice q)):(Op.equalIn (e+1) c (.slice a g d) (.slice none 0 0)).run s b=.ok a.isNone b:=by cases a<;>simp[Op.equalIn,run_underlying f]
theorem ZG (b:World) (a:Option Addr) (e d:Nat) (f:s.underlying c=some (.slice q)):(binOp .eql c (.slice a e d) (.slice none 0 0)).run s b=.ok (.bool a.isNone) b:=by simp only[binOp];simp[Op.equal,Op.maxDepth,ZI b 9999 a e d f]
theorem VM (u:ic.ac E C) {z:Oper} (a:Em ic (aO i.g) z=some (b,l)):dm E C z i (λX=>∃c:Bool,X=⟨(b,.val .bool c)::i.g,i.h⟩/\(c=true->l=0)):=by
 unfold Em at a;split at a
 case h_2=>cases a
 rename_i G D j k a4 L R;split at a
 case h_2=>cases a
 rename_i a3 av B A t I J;cases o:fx ic.n ic.pin G with
 |false=>rw[o] at a;cases a
 |true=>
 rw[o] at a;simp only[cond_true,bI,fd] at a;obtain⟨rfl,rfl⟩:=a;rw[u.1] at t;obtain⟨_,ad,_,T,_⟩:=eY.ok t;rintro e f ⟨Z,a0,an,m⟩ next am O
 have p:=m.aO j;have q:=m.aO k;rw[I] at p;rw[J] at q;obtain⟨d,w⟩:∃d,d=e.eval j:=⟨_,rfl⟩;obtain⟨e1,x⟩:∃d,d=e.eval k:=⟨_,rfl⟩;rw[<-w] at p;rw[<-x] at q;cases p with|val W=>cases q with|bP _=>
 obtain⟨_,c,s,rfl,ap,K,_⟩:=W;have U:e.eval j=.slice c (List.length (α:=B.den) A) s:=w.symm;have V:e.eval k=.slice none 0 0:=x.symm;have N:∀f,(eqGuard .eql D j k (.slice c (List.length (α:=B.den) A) s) (.slice none 0 0)).run E.P f=.ok () f:=λf=>(by unfold eqGuard;simp);refine Yields.wp (Q:=λr y=>r=.val .bool c.isNone/\y=[]) m (.pure (v:=.bool _) (by simp only[execOp,R,U,V,Sem.run_bind,N,Result.andThen_ok,ZG _ _ _ _ T];rfl) (.bool _) ⟨rfl,rfl⟩) L (fx.ok u o) ?_;rintro r y F Y ⟨rfl,rfl⟩ M S;refine O _ F Y ⟨c.isNone,rfl,λH=>?_⟩ M S;cases c with
 |none=>have:=K rfl;omega
 |some _=>cases H
theorem aap {e:IntKind} (g:E.P.underlying q=some (.array W c)) (f:dF E.P (.int e) c) {a:Act} (j:h.op=.indexAddr q (.global l) m) {o:IntKind} (i:a.eval m=.int o b) (r:b<W):(execOp a.eval h).run E.P v=.ok (.value (.pointer (some ⟨l,0+b*1,none⟩))) v:=by have d:=f.sizeOf v;have n:a.eval (.global l)=.pointer (some ⟨l,0,none⟩):=rfl;have:(0:Int)<=(b:Int)/\(b:Int)<(W:Int):=⟨U,U⟩;have k:(ag.int e).size=1:=rfl;rw[k] at d;simp[execOp,j,n,i,Instr.indexAt,Instr.sureAddr,asIntOf,run_underlying g,this,d,Addr.add_lit];intro p;omega
theorem aal (d:ic.ac E C) {G:Oper} {u:rD} {D e:Int} (a:Fo ic (aO i.g) G=some (l,u,D)) (ad:ay u.xs D=some e):dm E C G i (λap=>ap=⟨(l,.val (.ptr .bA (.int u.k)) (some e))::i.g,i.h⟩):=by
 unfold Fo at a;split at a
 case h_2=>cases a
 rename_i I a4 cv r T W;split at a
 case h_2=>cases a
 rename_i c B s A O;cases q:fx ic.n ic.pin I with
 |false=>rw[q] at a;cases a
 |true=>
 rw[q] at a;simp only[cond_true,bI,fd] at a;obtain⟨rfl,rfl,rfl⟩:=a;have m:=List.find?_some A;have p:=Ch A;rw[bd] at m;obtain rfl:=er m.1;obtain rfl:=er m.2;rw[d.2.2.2.1.2.2.2.2] at p;obtain⟨a3,S,R⟩:=E.gok c p;rintro v d2 ⟨a0,d0,co,j⟩ next bl V
 have o:=j.aO r;rw[O] at o;generalize Y:v.eval r=d1 at o;cases o with|val an=>
 obtain⟨_,rfl⟩:=an;obtain⟨aj,f,N⟩:=Ia ad;obtain⟨_,bs,ci,z,ar,ds,t⟩:=j.glob d.2.2.2.2.1 d.2.2.2.1.2.2.2.1 c p;simp only[fK,Value.slice.injEq,and_true] at z;obtain⟨rfl,_⟩:=z;rcases t with t|⟨ce,dl,y,P,am⟩
 ·rw[t] at f;simp at f
 simp only[bI,Addr.mk.injEq,and_true] at y;obtain⟨rfl,rfl⟩:=y;obtain⟨M,J,K,L⟩:=am _ _ N;have Z:v.eval r=.int B (s.toNat:Nat):=(by rw[Y];show Value.int B s=_;rw[<-aj]);refine Yields.wp (Q:=λw F=>w=.val (.ptr .bA (.int c.k)) (some e)/\F=[]) j (.pure (aap S R W Z f) (.val (τ:=.ptr .bA (.int c.k)) (x:=some e) (cs:=[.pointer (some ⟨c.b,0+s.toNat*1,none⟩)]) ⟨rfl,c.b,_,M,rfl,P,J,K,L⟩) ⟨rfl,rfl⟩) T (fx.ok d q) ?_;rintro w F H av ⟨rfl,rfl⟩ U X;exact V _ H av rfl U X
theorem LI (b:World) (d:Nat) (a:Option Addr) (e:s.underlying c=some (.pointer q)):(Op.equalIn (d+1) c (.pointer a) (.pointer none)).run s b=.ok a.isNone b:=by cases a<;>simp[Op.equalIn,run_underlying e]
theorem ZH (b:World) (a:Option Addr) (d:s.underlying c=some (.pointer q)):(binOp .eql c (.pointer a) (.pointer none)).run s b=.ok (.bool a.isNone) b:=by simp only[binOp];simp[Op.equal,Op.maxDepth,LI b 9999 a d]
theorem ZJ (b:World) (a:Option Addr) (d:s.underlying c=some (.pointer q)):(binOp .neq c (.pointer a) (.pointer none)).run s b=.ok (.bool (!a.isNone)) b:=by simp only[binOp];simp[Op.equal,Op.maxDepth,LI b 9999 a d]
theorem VI {e:Act} {q:Nat->Prop} (l:bt C i e.tmps v q y z) (a:El i.h (aO i.g m)=some I):∃k:Option Addr,e.eval m=.pointer k/\k.isNone=I:=by
 have b:=l.aO m;obtain⟨v1,c⟩:∃j,j=e.eval m:=⟨_,rfl⟩;rw[<-c] at b;unfold El at a;split at a
 ·rename_i D x j f;rw[f] at b;cases b with|val d=>
  obtain⟨_,d⟩:=d;cases a;cases j with
  |none=>subst d;exact⟨none,c.symm,rfl⟩
  |some G=>obtain⟨r,u,s,rfl,_⟩:=d;exact⟨some ⟨r,u,none⟩,c.symm,rfl⟩
 ·rename_i id E f;split at a
  case h_2=>cases a
  rename_i x o;split at a
  case h_2=>cases a
  rename_i F t;cases a;rw[f] at b;cases b with|ref p n=>
  rw[o] at p;cases p;have:=n.ty;rw[t] at this;cases this;obtain⟨I,w,s,rfl,A,B⟩:=nh (l.tree id _ o).1 n;exact⟨some ⟨I,w,none⟩,c.symm,rfl⟩
 cases a
theorem YL (s:ic.ac E C) {K:Oper} (a:ET ic (aO i.g) i.h K=some (b,I)):dm E C K i (λW=>W=⟨(b,.val .bool I)::i.g,i.h⟩):=by
 unfold ET at a;split at a
 case h_2=>cases a
 rename_i O l p X o av y D;split at a
 case h_2=>cases a
 rename_i N j R S;cases k:fx ic.n ic.pin O with
 |false=>rw[k] at a;cases a
 |true=>
 rw[k] at a;simp only[cond_true] at a;have U:∃e,E.P.underlying p=some (.pointer e):=by
  rw[s.1] at j;unfold Ix at j;split at j
  ·rename_i am ap V;obtain⟨_,e,_,_,_,_,T,_⟩:=E.ok p _ V;exact⟨e,T⟩
  cases j
 obtain⟨e,F⟩:=U;rintro x m ⟨Y,an,ad,f⟩ next Z A
 have u:=f.aO o;rw[S] at u;obtain⟨e1,H⟩:∃L,L=x.eval o:=⟨_,rfl⟩;rw[<-H] at u;cases u with|bP _=>
 obtain⟨M,G,B⟩:=VI f R;have J:x.eval o=.pointer none:=H.symm;have z:∀l m,(eqGuard l p X o (.pointer M) (.pointer none)).run E.P m=.ok () m:=λl m=>(by unfold eqGuard;cases l<;>simp);split at a
 ·cases a;refine Yields.wp (Q:=λc d=>c=.val .bool I/\d=[]) f (.pure (v:=.bool _) (by simp only[execOp,D,G,J,Sem.run_bind,z,Result.andThen_ok,ZH _ _ F,B];rfl) (.bool _) ⟨rfl,rfl⟩) y (fx.ok s k) ?_;rintro c d q w ⟨rfl,rfl⟩ r t;exact A _ q w rfl r t
 ·cases a;refine Yields.wp (Q:=λc d=>c=.val .bool (!N)/\d=[]) f (.pure (v:=.bool _) (by simp only[execOp,D,G,J,Sem.run_bind,z,Result.andThen_ok,ZJ _ _ F,B];rfl) (.bool _) ⟨rfl,rfl⟩) y (fx.ok s k) ?_;rintro c d q w ⟨rfl,rfl⟩ r t;exact A _ q w rfl r t
 cases a
theorem In (f:ic.ac E C) {m:Array Oper} {o:aJ->Option A} {r:A} (j:m[b]?=some h) (l:i4 m i h true) (a:i1 ic i h o=some r) (e:∀d,o d=some r->gP E C m g d u):gP E C m (b::g) i u:=
by
 unfold i1 at a;split at a
 ·rename_i q B y k;obtain⟨D,x,a⟩:=bZ.1 a;refine gP.op j l ((aal f k x).mono (λd c=>?_));subst c;exact e _ a
 split at a
 ·rename_i q p k;refine gP.op j l ((YL f k).mono (λd c=>?_));subst c;exact e _ a
 split at a
 ·rename_i q y k;obtain⟨t,v⟩:=VL a;refine gP.op j l ((VM f k).mono (λd c=>?_));obtain⟨p,rfl,w⟩:=c;cases p with
  |false=>exact e _ t
  |true=>exact e _ (v (w rfl))
 split at a
 ·rename_i id d z c;exact gP.op j l ((SZ f c a).mono (λd ⟨s,n,c⟩=>by subst c;exact e _ n))
 exact gP.op j l ((HA f a).mono (λd ⟨s,n,c⟩=>by subst c;exact e _ n))
theorem w1 {l2:cY} (e:ic.ac E C) {x:Array Oper} {y:aJ->Option A} {F:A} {z:aJ->Prop} (k:∀q,y q=some F->gP E C x l2 q z):∀{w:cY} {b:aJ},jr ic x w b y=some F->gP E C x (w++l2) b z
 |[],b,a=>k _ a
 |i::w,b,a=>by
  simp only[jr] at a;split at a
  ·cases a
  rename_i I p;split at a
  ·rename_i l;exact In e p (by unfold i4;rw[l]) a (λq c=>w1 e k c)
  rename_i H r l;split at a
  case h_2=>cases a
  rename_i f B u D;split at a
  case h_3=>cases a
  case h_2=>
   rename_i J j;cases c:fx ic.n ic.pin B with
   |false=>rw[c] at a;cases a
   |true=>
   rw[c] at a;have v:=fx.ok e c;refine gP.skip p D v ?_ (w1 e k a);unfold i4;rw[l];simp only[u,j]
  rename_i s j;cases c:fx ic.n ic.pin B with
  |false=>rw[c] at a;cases a
  |true=>
  rw[c] at a;have v:=fx.ok e c;simp only[cond_true] at a;split at a
  ·rename_i o;obtain rfl:s=r:=(by simpa using o);have m:∀d,gt (⟨(f,.val .bool s)::b.g,b.h⟩:aJ).g d=gt b.g d:=λd=>by
    show gt ((f,_)::b.g) d=_;rw[hk];split
    ·rename_i t;rw[<-t,j]
    rfl
   refine gP.same m rfl (In e p ?_ a (λq c=>w1 e k c));unfold i4;rw[l];simp only[u,m f,j];simp
  rename_i o;have G:s=!r:=by cases s<;>cases r<;>first|rfl|cases o
  have m:∀d,gt (⟨(f,.val .bool (!r))::b.g,b.h⟩:aJ).g d=gt b.g d:=λd=>by
   show gt ((f,_)::b.g) d=_;rw[hk];split
   ·rename_i t;rw[<-t,j,G]
   rfl
  refine gP.same m rfl (gP.skip p D v ?_ (w1 e k a));unfold i4;rw[l];simp only[u,m f,j];exact o
theorem Ul (h:ic.ac E C) {c:Array Oper} {b:aJ->Option A} {d:A} (f:∀a,b a=some d->u a) (e:jr ic c g i b=some d):gP E C c g i u:=by have:=w1 (l2:=[]) h (λa j=>gP.nil (f a j)) e;rwa[jc] at this
end
end
structure iO (s t:aJ):Prop where
 g:∀k,gt s.g k=gt t.g k
 h:∀id,ao s.h id=ao t.h id
theorem iO.refl (a:aJ):iO a a:=⟨λ_=>rfl,λ_=>rfl⟩
theorem iO.symm {c d:aJ} (b:iO c d):iO d c:=⟨λa=>(b.g a).symm,λa=>(b.h a).symm⟩
theorem iO.trans {d e f:aJ} (b:iO d e) (c:iO e f):iO d f:=⟨λa=>(b.g a).trans (c.g a),λa=>(b.h a).trans (c.h a)⟩
theorem bm.rG (a:bm) (e:aJ) (b:Nat):gt (a.app e).g b=match a.d with
 |some (c,f)=>if c=b then f else ef a.S a.keep (gt e.g b)
 |none=>ef a.S a.keep (gt e.g b):=by
 obtain⟨c,h,i,k⟩:=a;cases c with
 |none=>
  show gt (lL h i e.g) b=_;rw[n7,m9]
 |some j=>
  obtain⟨c,f⟩:=j;show gt ((c,f)::lL h i e.g) b=_;rw[hk,n7,m9]
theorem bm.p4 (a:bm) (b:aJ) (id:Nat):ao (a.app b).h id=(ao a.put id).or (if id∈a.S then none else ao b.h id):=by show ao (a.put++o6 a.S b.h) id=_;rw[sa,iF,jY]
theorem iO.app {c t:aJ} (b:iO c t) (a:bm):iO (a.app c) (a.app t):=
 ⟨λd=>by rw[bm.rG,bm.rG,b.g],λd=>by rw[bm.p4,bm.p4,b.h]⟩
theorem e3.seq {a:dn} {c:cQ} (b:iO i X) (d:e3 a i c v):e3 a X c v:=d.less (λe=>.inr (b.g e).symm) (λid=>(b.h id).symm)
def At:Option (Nat×al)->cU->Bool
 |some b,some a=>Nat.beq b.1 a
 |none,none=>true
 |_,_=>false
def q0:al->Bool
 |.dead=>false
 |_=>true
def nt (b c:cY):Bool:=b.all λa=>db a c
theorem nt.ok (b:nt g D=true):∀a∈g,a∈D:=λa c=>ek.1 (eI.1 b a c)
def ns (a:cY):al->Bool
 |.ref id []=>db (id+500000) a
 |_=>false
def ux:Op->Bool
 |.move _=>true
 |_=>false
def AK:Nat->List aV->Option (Nat×List aV)
 |k,.snd::a=>AK (k+1) a
 |k,.fst::a=>some (k,a)
 |_,_=>none
def wX:List aV->Option (Nat×List aV)
 |.deref::.unst::a=>AK 0 a
 |_=>none
def uo (q:List aV):cU:=match q with
 |[]=>some 1
 |q=>match wX q with
  |some (a,[])=>some (2*a+2)
  |some (a,_::_)=>some (2*a+3)
  |none=>none
def oS:al->Option cI
 |.ref id a=>match uo a with
  |some b=>some (id,b)
  |none=>none
 |.addr id a=>match uo a with
  |some b=>some (id,b)
  |none=>none
 |.app id a _ _ d=>match db id d,wX a with
  |false,some (c,_)=>some (id,2*c+3)
  |_,_=>none
 |_=>none
def qJ (b:cY) (a:al):Bool:=match oS a with
 |some (id,d)=>Nat.blt id 500000&&(db (id+1000000*d) b&&a.ids.all λc=>Nat.beq c id||db c b)
 |none=>false
def Bq (c:List aV) (a:Nat):Bool:=match wX c with
 |some (b,d)=>Nat.beq a 1||(Nat.ble 2 a&&(!(Nat.beq (a/2) (b+1))||(Nat.beq (a %2) 0&&na d)))
 |none=>false
def p3 (a:Operand->al) (b:Oper):Option (Nat×List aV):=match b.op with
 |.call {callee:=.builtin .append,args:=xs,argTypes:=_}=>match xs.toList with
  |[x,_]=>match a x with
   |.ref id (d::c)=>some (id,d::c)
   |_=>none
  |_=>none
 |_=>none
def EO (c:cY) (b:Operand->al) (d:Oper):Bool:=c.all λa=>Nat.blt a 1000000||(match p3 b d with
 |some (id,e)=>Nat.beq (a %1000000) (id+500000)&&(Nat.blt id 500000&&Bq e (a/1000000))
 |none=>false)
def UG (a:cY) (c:List (Nat×List aV)) (b:cY):Bool:=b.all λid=>Nat.blt id 500000&&((db id a&&(db (id+500000) a||jW c (.ref id [])))||db (id+1500000) a)
def yy:al->Bool
 |.dw b=>b.all q0
 |a=>q0 a
def mA (op:Op) (b:cY) (a:al):Bool:=match op with
 |.extract _ d=>match a with
  |.dw e=>match e[d]? with
   |some c=>q0 c&&(nt c.ids b||ns b c)
   |none=>false
  |_=>false
 |op=>yy a&&(nt a.ids b||((ux op&&ns b a)||qJ b a))
def n1 (c e:cY) (g:Operand->al) (f:Oper) (b:bm):Bool:=
 At b.d f.dst&&(f.op.operands.toList.all λh=>mA f.op c (g h))&&UG e b.keep b.S&&(b.put.all λa=>Nat.blt a.1 500000&&(db a.1 e||db (a.1+1500000) e))&&((match b.d with|some a=>nt a.2.ids c||(ns c a.2||qJ c a.2)|none=>true)&&EO e g f)
theorem gI {e:Type} (b:Bool) (d:Option a) (c:a->Option e):(bif b then d else none).bind c=bif b then d.bind c else none:=by cases b<;>rfl
theorem Z8 (tt:List (TypeId×ag)) (d:List (Nat×aC)) (c:TypeId) (f e:al) (b:bm->Option a):pz tt d c f e b=(pz tt d c f e some).bind b:=by
 unfold pz;split
 ·rfl
 split
 case h_2=>rfl
 split
 ·rfl
 rw[gI];congr 1;split
 ·split
  case h_2=>rfl
  cases Nat.beq _ _
  ·simp only[cond_false,ie,aM]
  rfl
 ·split
  case h_2=>rfl
  rw[gI];simp only[ie,aM]
 split
 ·simp only[ie,aM]
 rfl
theorem Eg (tt:List (TypeId×ag)) (d:List (Nat×aC)) (c:TypeId) (g e f:al) (b:bm->Option a):my tt d c g e f b=(my tt d c g e f some).bind b:=by
 unfold my;split
 case h_2=>rfl
 split
 case h_2=>rfl
 split
 case h_2=>rfl
 split
 case h_2=>rfl
 rw[gI];congr 1;split
 ·simp only[ie,aM]
 rfl
theorem Vq (tt:List (TypeId×ag)) (e:List (Nat×aC)) (d:Nat) (c:TypeId) (g f:al) (b:bm->Option a):pj tt e d c g f b=(pj tt e d c g f some).bind b:=by
 unfold pj;split
 case h_2=>rfl
 split
 case h_2=>rfl
 split
 case h_2=>rfl
 split
 case h_2=>rfl
 split
 case h_2=>rfl
 rw[gI];simp only[ie,aM]
theorem Tc (tt:List (TypeId×ag)) (d:List (Nat×aC)) (c:TypeId) (g e f:al) (b:bm->Option a):o8 tt d c g e f b=(o8 tt d c g e f some).bind b:=by
 unfold o8;split
 case h_2=>rfl
 rw[gI,Eg]
theorem Vj (tt:List (TypeId×ag)) (d:List (Nat×aC)) (c:TypeId) (f e:al) (b:bm->Option a):pi tt d c f e b=(pi tt d c f e some).bind b:=by
 unfold pi;split
 case h_2=>rfl
 split
 case h_2=>rfl
 split
 case h_2=>rfl
 split
 case h_2=>rfl
 rw[gI];simp only[ie,aM]
theorem RE (tt:List (TypeId×ag)) (d:List (Nat×ag)) (f:List (Nat×aC)) (e:Nat) (c:TypeId) (g h:al) (b:bm->Option a):mV tt d f e c g h b=(mV tt d f e c g h some).bind b:=by
 unfold mV;split
 ·rfl
 split
 ·split
  case h_2=>rfl
  rw[gI];congr 1;split
  ·simp only[ie,aM]
  split
  case h_2=>rfl
  split
  case h_2=>rfl
  split
  case h_2=>rfl
  cases Nat.beq _ _
  ·simp only[cond_false,ie,aM]
  rfl
 ·split
  case h_2=>rfl
  split
  case h_2=>rfl
  rw[gI];simp only[ie,aM]
 ·split
  case h_2=>rfl
  rw[gI];simp only[ie,aM]
 ·split
  case h_2=>rfl
  rw[gI];simp only[ie,aM]
 rfl
theorem RH (tt:List (TypeId×ag)) (d:List (Nat×ag)) (f:List (Nat×aC)) (e:Nat) (c:TypeId) (g h:al) (b:bm->Option a):me tt d f e c g h b=(me tt d f e c g h some).bind b:=by
 unfold me;split
 ·unfold vE;split
  case h_2=>rfl
  split
  case h_2=>rfl
  split
  case h_2=>rfl
  rw[gI];simp only[ie,aM]
 exact RE _ _ _ _ _ _ _ b
theorem SF (tt:List (TypeId×ag)) (e:List (Nat×aC)) (d:Nat) (c:TypeId) (f g:al) (b:bm->Option a):oT tt e d c f g b=(oT tt e d c f g some).bind b:=by
 unfold oT;split
 ·rfl
 split
 ·split
  case h_2=>rfl
  rw[gI];simp only[ie,aM]
 ·split
  case h_2=>rfl
  rw[gI];simp only[ie,aM]
 rfl
theorem R0 (tt:List (TypeId×ag)) (d:List (Nat×ag)) (g:List (Nat×aC)) (f:Operand->al) (e:Nat) (c:TypeId) (h:List (Nat×Operand)) (b:bm->Option a):p8 tt d g f e c h b=(p8 tt d g f e c h some).bind b:=by
 unfold p8;split
 ·rfl
 split
 ·rw[gI];congr 1;split
  ·rw[gI];rfl
  rfl
 rw[gI];congr 1;split
 ·rfl
 split
 ·rw[gI];rfl
 rfl
theorem R3 (tt:List (TypeId×ag)) (d:List (Nat×ag)) (f:List (Nat×aC)) (e:Nat) (c:TypeId) (g:al) (b:bm->Option a):rM tt d f e c g b=(rM tt d f e c g some).bind b:=by
 unfold rM;split
 ·split
  ·rw[gI];congr 1;split<;>rfl
  ·split
   ·rw[gI];rfl
   rfl
  rfl
 rfl
theorem R7 (tt:List (TypeId×ag)) (d:List (Nat×ag)) (g:List (Nat×aC)) (f:Operand->al) (e:Nat) (c:TypeId) (h:Nat) (i:List (Nat×Operand)) (b:bm->Option a):qa tt d g f e c h i b=(qa tt d g f e c h i some).bind b:=by
 unfold qa;split
 ·simp only;rw[gI];congr 1;split
  ·rfl
  split
  ·rw[gI];rfl
  rfl
 rfl
theorem wO {e:fq} (c:Operand->al) (d:List (Nat×aC)) (f:Oper) (b:bm->Option a):aj e c d f b=(aj e c d f some).bind b:=by
 unfold aj;split
 ·split
  ·exact Z8 _ _ _ _ _ b
  ·exact Eg _ _ _ _ _ _ b
  ·exact Eg _ _ _ _ _ _ b
  ·exact Tc _ _ _ _ _ _ b
  ·split
   case h_2=>rfl
   exact Vj _ _ _ _ _ b
  rfl
 rw[gI];congr 1;split
 ·split
  case h_2=>rfl
  split
  ·split<;>rfl
  split<;>rfl
 ·split
  case h_2=>rfl
  split
  ·rfl
  rw[gI];congr 1;simp only[lK,ie,gI,aM]
 ·split
  case h_2=>rfl
  rw[gI];congr 1;exact RH _ _ _ _ _ _ _ b
 ·split
  case h_2=>rfl
  exact SF _ _ _ _ _ _ b
 ·split
  ·rfl
  ·rfl
  ·rfl
  ·split
   ·rfl
   split
   ·simp only[ie,aM]
   simp only[ie,aM]
  simp only[ie,aM]
 ·exact R0 _ _ _ _ _ _ _ b
 ·exact Vq _ _ _ _ _ _ b
 ·exact R3 _ _ _ _ _ _ b
 ·exact R7 _ _ _ _ _ _ _ _ b
 split
 ·rfl
 ·simp only[ie,aM]
 ·rw[gI];simp only[ie,aM]
 split
 ·rfl
 ·simp only[ie,aM]
 rfl
theorem SV {f:fq} (c:Operand->al) (d:List (Nat×aC)) (e:Oper) (b:bm->Option a):iz f c d e b=(iz f c d e some).bind b:=by
 unfold iz;split
 ·exact wO c d e b
 rw[gI];congr 1;refine(wO _ _ _ _).trans (Eq.trans ?_ (congrArg (λg=>Option.bind g b) (wO _ _ _ _)).symm);simp only[ie,gI,aM]
theorem H5:∀{d:List aV} {c b:Nat} {e:List aV},AK c d=some (b,e)->c<=b/\d=List.replicate (b-c) .snd++.fst::e
 |[],_,_,_,a=>by cases a
 |s::d,c,b,e,a=>by
  cases s<;>simp only[AK] at a<;>first|(cases a;done)|skip
  ·cases a;exact⟨a8 _,ab⟩
  obtain⟨g,f⟩:=H5 a;refine⟨U,?_⟩;rw[(U:b-c=(b-(c+1))+1),List.replicate_succ,jd,<-f]
theorem AL {c:List aV} (a:wX j=some (b,c)):j=.deref::.unst::(List.replicate b .snd++.fst::c):=by
 unfold wX at a;split at a
 ·rename_i j;have:=(H5 a).2;rw[Nat.sub_zero] at this;rw[this]
 cases a
theorem Aq:∀{j k:Nat} {r r':List aV},j≠k->jk (List.replicate j .snd++.fst::r) (List.replicate k .snd++.fst::r')=true
 |0,0,_,_,a=>absurd rfl a
 |0,k+1,_,_,_=>rfl
 |j+1,0,_,_,_=>rfl
 |j+1,k+1,r,r',a=>Aq (j:=j) (k:=k) (r:=r) (r':=r') (λb=>a (by rw[b]))
theorem IB:∀{j:Nat} {r:List aV},fk (List.replicate j .snd++.fst::r) (List.replicate j .snd++[.fst])=na r
 |0,r=>by cases r<;>rfl
 |j+1,r=>IB (j:=j) (r:=r)
theorem Yv {id:Nat} (h:Bq j b=true) (e:oS d=some (id,b)) (z:∀k∈d.ids,k=id\/k∉g):hL g [(id,j),(id,[])] d=true:=by
 unfold Bq at h;split at h
 case h_2=>cases h
 rename_i k t E;have p:=AL E;have C:na j=true:=(by rw[p];rfl);have H:∀i:Nat,Nat.beq i i=true:=pU;have w:∀f,uo f=some b->fk j f=true:=by
  intro f l;unfold uo at l;split at l
  ·have:fk j []=na j:=by cases j with|nil=>rfl|cons q j=>cases q<;>rfl
   rw[this];exact C
  split at l
  ·rename_i a o;cases l;rw[AL o,p];have m:(2*a+2)/2=a+1:=U;have n:(2*a+2) %2=0:=U;rw[m,n] at h;show fk (List.replicate k .snd++.fst::t) (List.replicate a .snd++[.fst])=true;by_cases c:k=a
   ·subst c;rw[IB];simpa using h
   exact Ap (Aq c)
  ·rename_i a q F o;cases l;rw[AL o,p];have m:(2*a+3)/2=a+1:=U;have n:(2*a+3) %2=1:=U;rw[m,n] at h;show fk (List.replicate k .snd++.fst::t) (List.replicate a .snd++.fst::(q::F))=true;by_cases c:k=a
   ·subst c;simp at h
   exact Ap (Aq c)
  cases l
 unfold oS at e;split at e
 ·rename_i i f;split at e
  case h_2=>cases e
  rename_i y r;cases e;cases f with
  |nil=>simp[hL,jW]
  |cons q f=>simp[hL,jW,w _ r]
 ·rename_i i f;split at e
  case h_2=>cases e
  rename_i y r;cases e;simp[hL,jW,DO,w _ r]
 ·rename_i i f J I v;split at e
  case h_2=>cases e
  rename_i a G u o;cases e;have m:(2*a+3)/2=a+1:=U;have n:(2*a+3) %2=1:=U;rw[m,n] at h;have A:jk j f=true:=by
   rw[AL o,p];show jk (List.replicate k .snd++.fst::t) (List.replicate a .snd++.fst::G)=true;by_cases c:k=a
   ·subst c;simp at h
   exact Aq c
  have D:(v.all λi=>!(db i g))=true:=eI.2 λx s=>by
   rcases z x (e2 _ s) with c|c
   ·rw[c] at s;rw[ek.2 s] at u;cases u
   cases B:db x g
   ·rfl
   exact absurd (ek.1 B) c
  show((v.all λi=>!(db i g))&&([(id,j),(id,[])].any λc=>Nat.beq c.1 id&&jk c.2 f))=true;rw[D];simp[A]
 cases e
section
theorem Ed {g B:Operand->al} {b:List (Nat×Operand)} (d:∀e∈b,g e.2=B e.2):∀(f:ag) (a:Nat),oa g b f a=oa B b f a
 |.pr j h,a=>by
  simp only[oa,Ed d h (a+1)];cases i:kq b a with
  |none=>rfl
  |some c=>
   have:g c=B c:=d (a,c) (xa i);simp only[this]
 |.nil,_=>rfl
 |.int _,_=>rfl
 |.bool,_=>rfl
 |.str,_=>rfl
 |.a7 _ _,_=>rfl
 |.ptr _ _,_=>rfl
 |.osl _,_=>rfl
 |.optr _,_=>rfl
 |.st _,_=>rfl
 |.c6,_=>rfl
 |.mp _,_=>rfl
 |.dC _ _,_=>rfl
theorem I5 {h:List (Nat×aC)} {g B:Operand->al} {b:List (Nat×Operand)} (d:∀e∈b,g e.2=B e.2):∀(f:ag) (a:Nat),lf h g b f a=lf h B b f a
 |.pr k i,a=>by
  simp only[lf,I5 d i (a+1)];cases j:kq b a with
  |none=>rfl
  |some c=>
   have:g c=B c:=d (a,c) (xa j);simp only[this]
 |.nil,_=>rfl
 |.int _,_=>rfl
 |.bool,_=>rfl
 |.str,_=>rfl
 |.a7 _ _,_=>rfl
 |.ptr _ _,_=>rfl
 |.osl _,_=>rfl
 |.optr _,_=>rfl
 |.st _,_=>rfl
 |.c6,_=>rfl
 |.mp _,_=>rfl
 |.dC _ _,_=>rfl
section
variable {tt:List (TypeId×ag)} {an:List (Nat×ag)} {h A:List (Nat×aC)} {d:Nat} {g B:Operand->al}
theorem Bp {a:cP} (c:∀b∈a.toArray,g b=B b):a.map g=a.map B:=by
 cases a with
 |none=>rfl
 |some b=>simp only[fB,bI];exact c b ab
theorem Tj (e:∀a∈N.operands,g a=B a):e7 tt an h g d N=e7 tt an h B d N:=by
 cases N
 case build k ps=>
  have:∀b∈ps.toList,g b.2=B b.2:=λb l=>e b.2 (by simp only[Op.operands,vy,bR];exact⟨b,l,rfl⟩);simp only[e7,vG,Ed this]
 case buildSlice k n ps=>
  have:∀b∈ps.toList,g b.2=B b.2:=λb l=>e b.2 (by simp only[Op.operands,vy,bR];exact⟨b,l,rfl⟩);simp only[e7,tI,hW this]
 case slice k a p hi v=>
  simp only[Op.operands] at e;have s:g a=B a:=e a ab;have t:p.map g=p.map B:=Bp (λj f=>e j (by simp at f|-;simp[f]));have u:hi.map g=hi.map B:=Bp (λj f=>e j (by simp at f|-;simp[f]));cases v
  ·simp only[e7,s,t,u]
  rfl
 case makeMap k o=>
  cases o<;>rfl
 case makeFunc r x cs=>
  cases r<;>try rfl
  have:∀a∈cs.toList,g a=B a:=λa m=>e a (by simp only[Op.operands];exact oz _ (by simpa using m));simp only[e7,hW this]
 case call c=>
  obtain⟨w,q,y⟩:=c;have i:∀a∈q.toList,g a=B a:=λa m=>e a (by simp only[Op.operands,Call.operands];exact oz _ (by simpa using m));clear e;simp only[e7];split
  ·rename_i a k aj _;rw[aj] at i;rw[i a ab]
  ·rename_i a o aj;rw[aj] at i;rw[i a ab,hW (λj f=>i j (by simp[f]))]
  ·rename_i a o aj;rw[aj] at i;rw[i a ab,hW (λj f=>i j (by simp[f]))]
  rfl
 all_goals (simp only[Op.operands] at e;simp only[e7])
 all_goals (first|rfl|(simp_all;done))
theorem Tm (b:∀a∈N.operands,g a=B a):iW tt an h g d N=iW tt an h B d N:=by
 cases N
 case slice j a l hi q=>
  simp only[Op.operands] at b;have f:g a=B a:=b a ab;have n:l.map g=l.map B:=Bp (λi e=>b i (by simp at e|-;simp[e]));have o:hi.map g=hi.map B:=Bp (λi e=>b i (by simp at e|-;simp[e]));cases q
  ·simp only[iW,f,n,o]
  rfl
 case call c=>
  obtain⟨s,m,t⟩:=c;have k:∀a∈m.toList,g a=B a:=λa p=>b a (by simp only[Op.operands,Call.operands];exact oz _ (by simpa using p));clear b;simp only[iW];split
  ·rename_i a j aj _;rw[aj] at k;rw[k a ab]
  rfl
 case unOp r j a=>
  have f:g a=B a:=b a (by simp[Op.operands]);cases r<;>simp only[iW,f]
 all_goals (simp only[Op.operands] at b;simp only[iW])
 all_goals (first|rfl|(simp_all;done))
theorem Hw {q:fq} {s:Oper} {v:bm->Option a} (b:∀e∈s.op.operands,g e=B e):aj q g h s v=aj q B h s v:=by
 have A:=λ(d:Nat)=>Tm (tt:=q.tt) (an:=q.an) (h:=h) (d:=d) b;have z:=λ(d:Nat)=>Tj (tt:=q.tt) (an:=q.an) (h:=h) (d:=d) b;unfold aj;cases C:s.dst with
 |none=>
  simp only;split
  ·rename_i k e o c;rw[c] at b;rw[b e (by simp[Op.operands]),b o (by simp[Op.operands])]
  ·rename_i k e n o c;rw[c] at b;rw[b e (by simp[Op.operands]),b n (by simp[Op.operands]),b o (by simp[Op.operands])]
  ·rename_i k e n o c;rw[c] at b;rw[b e (by simp[Op.operands]),b n (by simp[Op.operands]),b o (by simp[Op.operands])]
  ·rename_i k e n o c;rw[c] at b;rw[b e (by simp[Op.operands]),b n (by simp[Op.operands]),b o (by simp[Op.operands])]
  ·rename_i l x c;rw[c] at b;split
   ·rename_i e p k w aj _;have i:∀f∈l.toList,g f=B f:=λf m=>b f (by simp only[Op.operands,Call.operands];exact oz _ (by simpa using m));rw[aj] at i;rw[i e ab,i p ab]
   rfl
  rfl
 |some d=>
  simp only;congr 1;split
  ·rename_i y e p c;rw[c] at b;rw[b y (by simp[Op.operands]),b e (by simp[Op.operands]),b p (by simp[Op.operands])]
  ·rename_i f l _ c;rw[c] at b;have:l.toList.map g=l.toList.map B:=hW λe i=>b e (by simp only[Op.operands,Call.operands];exact oz _ (by simpa using i));have m:g f=B f:=b f (by simp[Op.operands,Call.operands]);rw[this,m]
  ·rename_i l x c;rw[c] at b;split
   ·rename_i e p k w aj _;have i:∀f∈l.toList,g f=B f:=λf m=>b f (by simp only[Op.operands,Call.operands];exact oz _ (by simpa using m));rw[aj] at i;rw[i e ab,i p ab]
   rfl
  ·rename_i l x c;rw[c] at b;split
   ·rename_i e p k w aj _;have i:∀f∈l.toList,g f=B f:=λf m=>b f (by simp only[Op.operands,Call.operands];exact oz _ (by simpa using m));rw[aj] at i;rw[i e ab,i p ab]
   rfl
  ·rename_i e c;rw[c] at b;rw[b e (by simp[Op.operands])]
  ·rename_i k u c;rw[c] at b;have r:∀j∈u.toList,g j.2=B j.2:=λj t=>b j.2 (by simp only[Op.operands,vy,bR];exact⟨j,t,rfl⟩);simp only[p8,Ed r,I5 r]
  ·rename_i k e n c;rw[c] at b;rw[b e (by simp[Op.operands]),b n (by simp[Op.operands])]
  ·rename_i k e c;rw[c] at b;rw[b e (by simp[Op.operands])]
  ·rename_i k D u c;rw[c] at b;have r:∀j∈u.toList,g j.2=B j.2:=λj t=>b j.2 (by simp only[Op.operands,vy,bR];exact⟨j,t,rfl⟩);simp only[qa,hW r]
  rw[A,z]
def ey (h A:List (Nat×aC)) (a:al):Prop:=∀id∈a.ids,ao h id=ao A id
theorem YA (a:ey h A t):pp h t=pp A t:=by
 cases t with
 |ref id b=>simp only[pp,a id (by simp[al.ids])]
 |_=>rfl
theorem Yz {id:Nat} (a:pp h t=some (id,j)):id∈t.ids:=by
 unfold pp at a;split at a
 ·cases a;simp[al.ids]
 ·split at a
  ·split at a
   ·cases a;simp[al.ids]
   cases a
  cases a
 cases a
theorem Z9 {b:al} {d:bm->Option a} (e:ey h A b) (g:ey h A t):pz tt h c b t d=pz tt A c b t d:=by
 unfold pz;rw[<-YA e];split
 ·rfl
 rename_i id j f;rw[e id (Yz f)];cases t with
 |ref i k=>simp only[g i (by simp[al.ids])]
 |_=>rfl
theorem MI (a:ey h A t):jA h n t=jA A n t:=by
 cases t with
 |ref id b=>simp only[jA,a id (by simp[al.ids])]
 |view id b e d=>simp only[jA,a id (by simp[al.ids])]
 |val c g=>cases c<;>rfl
 |bP f=>unfold jA;split<;>first|rfl|(split<;>first|rfl|simp_all)
 |_=>rfl
theorem RF {f:al} {j:bm->Option a} (g:ey h A f) (k:ey h A t) (n:ao h d=ao A d):mV tt an h d c f t j=mV tt an A d c f t j:=by
 unfold mV;split
 ·rfl
 have e:∀i:ag,jA h i t=jA A i t:=λi=>MI k;cases f with
 |ref id b=>
  cases b with
  |nil=>
   simp only[g id (by simp[al.ids]),e];cases t with
   |ref o l=>
    cases l with
    |nil=>simp only[k o (by simp[al.ids])]
    |cons m l=>rfl
   |_=>rfl
  |cons m b=>simp only[g id (by simp[al.ids]),e,n]
 |view id b q p=>
  cases b with
  |nil=>simp only[g id (by simp[al.ids]),e]
  |cons m b=>rfl
 |bP r=>simp only[e];split<;>first|rfl|(split<;>first|rfl|simp_all)
 |_=>rfl
theorem Yl {a:al} (d:ey h A t):sO h a t=sO A a t:=by
 unfold sO;cases a with
 |ref id b=>
  cases b with
  |nil=>rfl
  |cons f b=>
   cases t with
   |ref e c=>
    cases c with
    |nil=>simp only[d e (by simp[al.ids])]
    |cons g c=>rfl
   |_=>rfl
 |_=>rfl
theorem RI {b:al} {e:bm->Option a} (g:ey h A t) (i:ey h A b) (f:ao h d=ao A d):me tt an h d c t b e=me tt an A d c t b e:=by
 unfold me;rw[Yl i,RF g i f];split
 ·rename_i id l k m j;obtain⟨rfl,_,_⟩:=EL j;unfold vE;rw[g id (by simp[al.ids]),f]
 rfl
theorem SG {e:al} {g:bm->Option a} (i:ey h A e) (k:ey h A t):oT tt h d c e t g=oT tt A d c e t g:=by
 unfold oT;split
 ·rfl
 have j:∀f:ag,jA h f t=jA A f t:=λf=>MI k;cases e with
 |ref id b=>
  cases b with
  |nil=>simp only[i id (by simp[al.ids]),j]
  |cons l b=>rfl
 |view id b n m=>
  cases b with
  |nil=>simp only[i id (by simp[al.ids]),j]
  |cons l b=>rfl
 |_=>rfl
theorem Cx (b:ey h A t):nS an h d t=nS an A d t:=by
 cases t with
 |ref id a=>
  cases a with
  |nil=>simp only[nS,b id (by simp[al.ids])]
  |cons c a=>rfl
 |view id a f e=>
  cases a with
  |nil=>simp only[nS,b id (by simp[al.ids])]
  |cons c a=>rfl
 |bP t=>unfold nS;split<;>first|rfl|(split<;>first|rfl|simp_all)
 |_=>rfl
theorem Ys (b:ey h A t):uU h n t=uU A n t:=by
 cases t with
 |ref id a=>
  cases a with
  |nil=>simp only[uU,b id (by simp[al.ids])]
  |cons c a=>rfl
 |_=>rfl
theorem I6 {b:List (Nat×Operand)} (c:∀i∈b,ey h A (g i.2)):∀(d:ag) (a:Nat),lf h g b d a=lf A g b d a
 |.pr k e,a=>by
  simp only[lf,I6 c e (a+1)];cases f:kq b a with
  |none=>rfl
  |some j=>simp only[Ys (c (a,j) (xa f))]
 |.nil,_=>rfl
 |.int _,_=>rfl
 |.bool,_=>rfl
 |.str,_=>rfl
 |.a7 _ _,_=>rfl
 |.ptr _ _,_=>rfl
 |.osl _,_=>rfl
 |.optr _,_=>rfl
 |.st _,_=>rfl
 |.c6,_=>rfl
 |.mp _,_=>rfl
 |.dC _ _,_=>rfl
theorem St (b:ey h A t):rO h n t=rO A n t:=by
 cases t with
 |ref id a=>
  cases a with
  |nil=>simp only[rO,b id (by simp[al.ids])]
  |cons c a=>rfl
 |_=>rfl
theorem Hd {c:ag}:∀{l:List al},(∀a∈l,ey h A a)->rP h c l=rP A c l
 |[],_=>rfl
 |x::e,b=>by simp only[rP,St (b x ab),Hd (l:=e) (λa d=>b a (by simp[d]))]
theorem GH (a:ey h A t):mf h D t n=mf A D t n:=by
 cases t with
 |ref id b=>simp only[mf,a id (by simp[al.ids])]
 |_=>rfl
theorem al.I1 {id:Nat} (c:t∈L) (e:id∈t.ids):id∈(al.dg b L).ids:=by obtain⟨a,d,rfl⟩:=ha.1 c;exact al.xj (l:=L) (i:=a) (bo d) e
theorem Ib {b:cY}:∀{τs:List ag} {avs:List al},(∀a∈avs,ey h A a)->m8 h b τs avs=m8 A b τs avs
 |[],[],_=>rfl
 |[],_::_,_=>rfl
 |_::_,[],_=>rfl
 |τ::f,d::as,c=>by simp only[m8,GH (c d ab),Ib (τs:=f) (avs:=as) (λa e=>c a (by simp[e]))]
theorem qF {S:cY}:∀{ps:List fC} {avs:List al},(∀b∈avs,ey h A b)->ea h S ps avs=ea A S ps avs
 |[],[],_=>rfl
 |[],_::_,_=>rfl
 |p::f,[],_=>by cases p<;>rfl
 |.v q::f,g::as,a=>by simp only[ea,GH (a g ab),qF (ps:=f) (avs:=as) (λb d=>a b (by simp[d]))]
 |.c z r::f,g::as,a=>by
  have e:=qF (S:=S) (ps:=f) (avs:=as) (λb d=>a b (by simp[d]));cases g with
  |dg u i=>
   have:m8 h S r i=m8 A S r i:=Ib (λb d id t=>a (.dg u i) ab id (al.I1 d t));simp only[ea,this,e]
  |_=>rfl
 |.m q::f,g::as,a=>by
  have e:=qF (S:=S) (ps:=f) (avs:=as) (λb d=>a b (by simp[d]));cases g with
  |ref id p=>
   cases p with
   |nil=>simp only[ea,a (.ref id []) ab id (by simp[al.ids]),e]
   |cons l p=>rfl
  |_=>rfl
 |.o q::f,g::as,a=>by
  have e:=qF (S:=S) (ps:=f) (avs:=as) (λb d=>a b (by simp[d]));cases g with
  |ref id p=>
   cases p with
   |nil=>simp only[ea,a (.ref id []) ab id (by simp[al.ids]),e]
   |cons l p=>rfl
  |bP x=>simp only[ea,e]
  |_=>rfl
 |.w B::f,g::as,a=>by
  have e:=qF (S:=S) (ps:=f) (avs:=as) (λb d=>a b (by simp[d]));cases g with
  |view id p k j=>
   cases p with
   |nil=>simp only[ea,a (.view id [] k j) ab id (by simp[al.ids]),e]
   |cons l p=>rfl
  |_=>rfl
 |.n::f,g::as,a=>by
  have e:=qF (S:=S) (ps:=f) (avs:=as) (λb d=>a b (by simp[d]));cases g with
  |bP x=>simp only[ea,e]
  |_=>rfl
 |.s y i::f,g::as,a=>by
  have e:=qF (S:=S) (ps:=f) (avs:=as) (λb d=>a b (by simp[d]));cases g with
  |ref id p=>cases p<;>simp only[ea,e]
  |view id p k j=>cases p<;>simp only[ea,e]
  |_=>simp only[ea,e]
theorem UV (a:ey h A t):sy tt h c t=sy tt A c t:=by
 unfold sy;cases t with
 |ref id d=>simp only[a id (by simp[al.ids])]
 |app id d b i f=>simp only[a id (by simp[al.ids])]
 |val b j=>cases eY tt c with|none=>rfl|some e=>cases b<;>rfl
 |bP g=>cases eY tt c with|none=>rfl|some e=>simp only;split<;>first|rfl|(split<;>first|rfl|simp_all)
 |_=>rfl
theorem Vx (a:ey h A t):sE tt h c t=sE tt A c t:=by
 unfold sE;cases t with
 |ref id d=>simp only[a id (by simp[al.ids])]
 |val b f=>cases ju tt c with|none=>rfl|some e=>cases b<;>rfl
 |_=>rfl
theorem U3 {a:al} (b:ey h A t):sA tt h c t a I=sA tt A c t a I:=by
 unfold sA;cases t with
 |ref id e=>simp only[b id (by simp[al.ids])]
 |val d f=>split<;>first|rfl|(cases d<;>rfl)
 |_=>split<;>rfl
theorem Vv (a:ao h d=ao A d):uJ tt an h d c=uJ tt an A d c:=by unfold uJ;rw[a]
theorem Eh {b:bm->Option a} {d e:al} (f:ey h A t):my tt h c t d e b=my tt A c t d e b:=by
 unfold my;cases t with
 |ref id g=>simp only[f id (by simp[al.ids])]
 |_=>rfl
theorem Vr {b:bm->Option a} {e:al} (f:ey h A t):pj tt h d c t e b=pj tt A d c t e b:=by
 unfold pj;cases t with
 |ref id g=>simp only[f id (by simp[al.ids])]
 |_=>rfl
theorem Td {d:bm->Option a} {b e:al} (f:ey h A t):o8 tt h c t b e d=o8 tt A c t b e d:=by
 unfold o8;cases t with
 |ref id j=>
  cases b with
  |iV g k i=>simp only[Eh f]
  |_=>rfl
 |_=>rfl
theorem Vk {b:bm->Option a} {d:al} (e:ey h A t):pi tt h c t d b=pi tt A c t d b:=by
 unfold pi;cases t with
 |ref id f=>simp only[e id (by simp[al.ids])]
 |_=>rfl
theorem Un {b:al} (a:ey h A t):su tt h c t b=su tt A c t b:=by
 unfold su;cases t with
 |ref id d=>simp only[a id (by simp[al.ids])]
 |view id d g f=>simp only[a id (by simp[al.ids])]
 |val e j=>cases e<;>rfl
 |bP i=>rfl
 |_=>rfl
theorem U0 (a:ey h A t):sz tt h c t=sz tt A c t:=by
 unfold sz;cases t with
 |ref id b=>simp only[a id (by simp[al.ids])]
 |addr id b=>simp only[a id (by simp[al.ids])]
 |val e d=>cases e<;>first|rfl|(cases d<;>rfl)
 |bP f=>rfl
 |_=>rfl
theorem TP (a:ey h A t):sm tt h c t b=sm tt A c t b:=by
 unfold sm;cases t with
 |ref id d=>simp only[a id (by simp[al.ids])]
 |addr id d=>simp only[a id (by simp[al.ids])]
 |val g f=>cases g<;>first|rfl|(rename_i i e;cases f<;>first|rfl|(cases e<;>rfl))
 |bP j=>rfl
 |_=>rfl
theorem TR (a:ey h A t):i9.uq tt h c t b=i9.uq tt A c t b:=by
 unfold i9.uq;cases t with
 |ref id e=>simp only[a id (by simp[al.ids])]
 |val d g=>cases d<;>rfl
 |bP f=>rfl
 |_=>rfl
theorem VJ (a:ey h A t):sG h t=sG A t:=by
 unfold sG;cases t with
 |ref id c=>simp only[a id (by simp[al.ids])]
 |val b e=>cases b<;>rfl
 |bP d=>rfl
 |_=>rfl
theorem ZU {b a:Option al} (d:ey h A t):s0 tt h c t b a=s0 tt A c t b a:=by
 unfold s0;cases t with
 |ref id f=>simp only[d id (by simp[al.ids])]
 |val e i=>cases e<;>rfl
 |bP g=>rfl
 |_=>rfl
theorem Vf {a:al} (b:ao h d=ao A d):sC tt an h d c a t=sC tt an A d c a t:=by unfold sC;rw[b]
theorem Ry (a:ao h d=ao A d):tz tt an h d c=tz tt an A d c:=by unfold tz;rw[a]
theorem Tk (e:∀a∈N.operands,ey h A (g a)) (f:ao h d=ao A d):e7 tt an h g d N=e7 tt an A g d N:=by
 cases N
 case box b a=>simp only[e7,vH];rw[f]
 case buildSlice b n ps=>simp only[e7,tI];rw[f]
 case alloc b=>exact Ry f
 case makeSlice b l c=>exact Vf f
 case makeMap b r=>
  cases r
  ·exact Vv f
  rfl
 case lookup b a k ok=>exact U3 (e a (by simp[Op.operands]))
 case load b a=>exact U0 (e a (by simp[Op.operands]))
 case nilCheck a=>exact VJ (e a (by simp[Op.operands]))
 case indexAddr b a i=>exact Un (e a (by simp[Op.operands]))
 case fieldAddr b a n=>exact TP (e a (by simp[Op.operands]))
 case field b a n=>exact TR (e a (by simp[Op.operands]))
 case slice b a u hi q=>
  cases q
  ·exact ZU (e a (by simp[Op.operands]))
  rfl
 case call c=>
  obtain⟨s,m,v⟩:=c;have j:∀a∈m.toList,ey h A (g a):=λa p=>e a (by simp only[Op.operands,Call.operands];exact oz _ (by simpa using p));clear e;simp only[e7];split
  ·rename_i a b aj _;rw[aj] at j;split;exact UV (j a ab);exact Vx (j a ab)
  ·rfl
  ·rfl
  rfl
 case makeFunc o t cs=>cases o<;>rfl
 all_goals rfl
theorem Tn (j:∀b∈N.operands,ey h A (g b)) (r:ao h d=ao A d):iW tt an h g d N=iW tt an A g d N:=by
 cases N
 case lookup f b k ok=>
  have a:=j b (by simp[Op.operands]);simp only[iW];split
  ·rename_i w id e z aj q y;rw[q] at a;rw[a id (by simp[al.ids])]
  rfl
 case makeSlice f l c=>simp only[iW,r]
 case unOp v f b=>cases v<;>rfl
 case indexAddr f b i=>
  have a:=j b (by simp[Op.operands]);simp only[iW];revert a;cases g b with
  |ref id e=>intro a;simp only[a id (by simp[al.ids])]
  |view id e t s=>
   intro a;cases e with
   |nil=>simp only[a id (by simp[al.ids])]
   |cons=>rfl
  |val m o=>intro _;cases m<;>rfl
  |_=>intro _;rfl
 case load f b=>
  have a:=j b (by simp[Op.operands]);simp only[iW];revert a;cases g b with
  |ref id e=>intro a;simp only[a id (by simp[al.ids])]
  |addr id e=>intro a;simp only[a id (by simp[al.ids])]
  |val m o=>intro _;cases m<;>rfl
  |_=>intro _;rfl
 case slice f b t s u=>
  have a:=j b (by simp[Op.operands]);cases u
  ·simp only[iW];revert a;cases g b with
   |ref id e=>intro a;simp only[a id (by simp[al.ids])]
   |val m o=>intro _;cases m<;>rfl
   |_=>intro _;rfl
  rfl
 case call c=>
  obtain⟨x,p,B⟩:=c;have n:∀b∈p.toList,ey h A (g b):=λb a=>j b (by simp only[Op.operands,Call.operands];exact oz _ (by simpa using a));clear j;simp only[iW];split
  ·rename_i b f aj _;rw[aj] at n;have a:=n b ab;cases eY tt f with
   |none=>
    revert a;cases g b with
    |ref id e=>intro a;simp only;rw[a id (by simp[al.ids])]
    |_=>intro _;rfl
   |some w=>
    revert a;cases g b with
    |ref id e=>intro a;simp only;rw[a id (by simp[al.ids])]
    |_=>intro _;rfl
  rfl
 all_goals rfl
theorem qU {a:Callee} (b:m∈R.toList):m∈(Op.call {callee:=a,args:=R,argTypes:=V}).operands:=by simp only[Op.operands,Call.operands];exact oz _ (by simpa using b)
theorem Hx {D:fq} {z:Oper} (a:aj D g h z some=some p) (b:∀i∈z.op.operands,ey h A (g i)) (t:∀d,z.dst=some d->ao h d=ao A d) (x:∀c∈p.put,ao h c.1=ao A c.1):aj D g A z some=some p:=by
 unfold aj at a|-;cases G:z.dst with
 |none=>
  rw[G] at a;simp only at a|-;split at a
  ·rename_i o i B e;rw[e] at b;rw[<-Z9 (b i (by simp[Op.operands])) (b B (by simp[Op.operands]))];exact a
  ·rename_i o i I B e;rw[e] at b;rw[<-Eh (b i (by simp[Op.operands]))];exact a
  ·rename_i o i I B e;rw[e] at b;rw[<-Eh (b i (by simp[Op.operands]))];exact a
  ·rename_i o i U B e;rw[e] at b;rw[<-Td (b i (by simp[Op.operands]))];exact a
  ·rename_i r P e;rw[e] at b;split at a
   case h_2=>cases a
   rename_i i I o L aj M;have l:∀k∈r.toList,ey h A (g k):=λk v=>b k (qU v);rw[aj] at l;rw[<-Vk (l i ab)];exact a
  cases a
 |some d=>
  rw[G] at a;have t:=t d G;simp only at a|-;cases O:fx D.n D.pin d with
  |false=>rw[O] at a;cases a
  |true=>
  rw[O] at a;simp only[cond_true] at a|-;split at a
  ·rename_i V i C e;exact a
  ·rename_i k r _ e;rw[e] at b;split at a
   case h_2=>cases a
   rename_i Q J v
   try rw[v]
   try simp only
   have l:∀s∈r.toList.map g++J,ey h A s:=λs q=>by
    rcases dO.1 q with q|q
    ·obtain⟨i,j,rfl⟩:=bR.1 q;exact b i (qU j)
    intro id S;exact b k (by simp[Op.operands,Call.operands]) id (by rw[v];exact al.I1 q S)
   split at a
   ·cases a
   rename_i m W;cases N:Nat.beq m.f Q with
   |false=>rw[N] at a;cases a
   |true=>
   rw[N] at a;simp only[cond_true,lK] at a|-;rw[<-qF l];obtain⟨s,q,a⟩:=bZ.1 a;obtain⟨w,T,a⟩:=bZ.1 a;simp only[q,T,aM];cases F:lH d ⟨[],h⟩ (r.toList.map g++J) (eP m.ps s w) (hm m.rs (gL m.ps w)) with
   |false=>rw[F] at a;cases a
   |true=>
   rw[F] at a;have R:lH d ⟨[],A⟩ (r.toList.map g++J) (eP m.ps s w) (hm m.rs (gL m.ps w))=true:=(by rw[<-F];unfold lH;congr 1;rw[lX,eI,eI];cases a;have u:∀c∈ho d (g5 (hm m.rs (gL m.ps w))) 0 (hm m.rs (gL m.ps w)),ao h c.1=ao A c.1:=λc u=>x c (by simp only[dO];exact .inr u);exact⟨λH c y=>by rw[show ao (aJ.mk [] h).h c.1=ao h c.1 from rfl,u c y];exact H c y,λH c y=>by rw[show ao (aJ.mk [] A).h c.1=ao A c.1 from rfl,<-u c y];exact H c y⟩);rw[R];exact a
  ·rename_i r P e;rw[e] at b;split at a
   case h_2=>cases a
   rename_i i C o L aj M;have l:∀k∈r.toList,ey h A (g k):=λk v=>b k (qU v);rw[aj] at l;rw[<-RI (l i ab) (l C ab) t];exact a
  ·rename_i r P e;rw[e] at b;split at a
   case h_2=>cases a
   rename_i i C o L aj M;have l:∀k∈r.toList,ey h A (g k):=λk v=>b k (qU v);rw[aj] at l;rw[<-SG (l i ab) (l C ab)];exact a
  ·rename_i i e;rw[e] at b;have j:=b i (by simp[Op.operands]);revert a j;cases g i with
   |val ad C=>intro a _;exact a
   |bP B=>intro a j;simp only[<-Cx j];exact a
   |ref id E=>intro a j;simp only[<-Cx j];exact a
   |view id E Y X=>intro a j;simp only[<-Cx j];exact a
   |_=>intro a _;exact a
  ·rename_i o K e;rw[e] at b;have x:∀c∈K.toList,ey h A (g c.2):=λc u=>b c.2 (by simp only[Op.operands,vy,bR];exact⟨c,u,rfl⟩);rw[<-a];simp only[p8,I6 x,t]
  ·rename_i o i I e;rw[e] at b;rw[<-Vr (b i (by simp[Op.operands]))];exact a
  ·rename_i o i e;rw[e] at b;have j:=b i (by simp[Op.operands]);rw[<-a];simp only[rM,t];revert j;cases g i with
   |ref id E=>
    intro j;cases E with
    |nil=>simp only[j id (by simp[al.ids])]
    |cons U E=>rfl
   |_=>intro _;rfl
  ·rename_i o Z K e;rw[e] at b;have x:∀s∈K.toList.map (λc=>g c.2),ey h A s:=λs q=>by
    obtain⟨c,u,rfl⟩:=bR.1 q;exact b c.2 (by simp only[Op.operands,vy,bR];exact⟨c,u,rfl⟩)
   rw[<-a];simp only[qa,Hd x,t]
  rw[Tn b t,Tk b t] at a;exact a
end
theorem My:∀d∈pD N,d∈N.operands:=by
 intro d b;cases N<;>simp only[pD] at b<;>first|(cases b;done)|skip
 case assign y=>simpa[Op.operands] using b
 case box T y=>simpa[Op.operands] using b
 case build T ps=>simpa[Op.operands] using b
 case buildSlice T n ps=>simpa[Op.operands] using b
 case store T a v=>simp at b;simp[Op.operands,b]
 case mapUpdate T a k v=>simp at b;simp[Op.operands,b]
 case insert T a k v=>simp at b;simp[Op.operands,b]
 case entryStore T a k v=>simp at b;simp[Op.operands,b]
 case call c=>
  obtain⟨f,e,g⟩:=c;simp only at b;split at b
  ·exact qU b
  ·exact qU (List.mem_of_mem_drop b)
  cases b
theorem AI {e:c0} {i:Nat} {g:Operand->al}:∀{d:List Operand},∀id∈kL e i g d,∃x∈d,g x=.ref id []
 |[],id,h=>by cases h
 |x::d,id,h=>by
  simp only[kL] at h;split at h
  ·rename_i j f;rw[Bool.cond_eq_ite] at h;split at h
   ·rcases dh.1 h with rfl|h
    ·exact⟨x,ab,f⟩
    obtain⟨c,b,a⟩:=AI id h;exact⟨c,by simp[b],a⟩
   obtain⟨c,b,a⟩:=AI id h;exact⟨c,by simp[b],a⟩
  obtain⟨c,b,a⟩:=AI id h;exact⟨c,by simp[b],a⟩
theorem H4 {a:c0} {c:Nat} {g B:Operand->al}:∀{l:List Operand},(∀x∈l,g x=B x)->kL a c g l=kL a c B l
 |[],_=>rfl
 |x::l,b=>by simp only[kL,b x ab,H4 (l:=l) (λe d=>b e (by simp[d]))]
theorem H3 {h A:List (Nat×aC)} (c:∀id∈g,ao h id=ao A id) (a:al):ff h g a=ff A g a:=by
 cases a with
 |ref id b=>
  cases b with
  |nil=>
   simp only[ff];cases d:db id g with
   |false=>rfl
   |true=>rw[c id (ek.1 d)]
  |cons e b=>rfl
 |_=>rfl
theorem TZ {h A:List (Nat×aC)} (e:∀id∈g,ao h id=ao A id) (a:al):g2 h g a=g2 A g a:=by
 by_cases d:∃b,a=.dw b
 ·obtain⟨b,rfl⟩:=d;simp only[g2,hW (λa _=>H3 e a)]
 rw[AH (λb c=>d ⟨b,c⟩),AH (λb c=>d ⟨b,c⟩),H3 e a]
theorem H2 {h:List (Nat×aC)}:∀id∈(ff h g d).ids,id∈d.ids:=by
 intro id a;rcases ld h g d with⟨e,c,rfl,_,_,b⟩|⟨b,_⟩|⟨b,_⟩
 ·rw[b] at a;have:(pb c).ids=[]:=(by unfold pb;split<;>rfl);rw[this] at a;cases a
 ·rw[b] at a;cases a
 rw[b] at a;exact a
theorem Ip {c:al->al} (d:∀a,∀id∈(c a).ids,id∈a.ids):∀{b:List al} {id:Nat},id∈al.mq (b.map c)->id∈al.mq b
 |[],_,h=>h
 |a::b,id,h=>by simp only[ep,al.mq,dO] at h|-;exact h.imp (d a id) (Ip d)
theorem TY {h:List (Nat×aC)}:∀id∈(g2 h g d).ids,id∈d.ids:=by
 by_cases b:∃a,d=.dw a
 ·obtain⟨a,rfl⟩:=b;exactλid e=>Ip (λd=>H2) e
 rw[AH (λa c=>b ⟨a,c⟩)];exact H2
theorem SX {l:fq} {g B:Operand->al} {h A:List (Nat×aC)} {c:Oper} (b:iz l g h c some=some p) (q:∀a∈c.op.operands,g a=B a) (o:∀a∈c.op.operands,ey h A (g a)) (t:∀d,c.dst=some d->ao h d=ao A d) (v:∀m∈p.put,ao h m.1=ao A m.1):iz l B A c some=some p:=by
 unfold iz at b|-;rw[<-H4 (λa j=>q a (My a j))];split
 ·rename_i f;rw[f] at b;rw[<-Hw q];exact Hx b o t v
 rename_i C;split at b
 ·rename_i f;exact(C f).elim
 have f:∀id∈kL l.m6 (so c) g (pD c.op),ao h id=ao A id:=λid e=>(by obtain⟨a,j,p⟩:=AI id e;exact o a (My a j) id (by rw[p];simp[al.ids]));generalize kL l.m6 (so c) g (pD c.op)=i at b f|-;have y:lI A i=lI h i:=(by unfold lI;rw[lX,eI,eI];exact⟨λr id e=>by rw[f id e];exact r id e,λr id e=>by rw[<-f id e];exact r id e⟩);rw[y];cases s:lI h i with
 |false=>rw[s] at b;cases b
 |true=>
 rw[s] at b;simp only[cond_true] at b|-;rw[wO] at b|-;obtain⟨n,w,k⟩:=bZ.1 b;have D:n.put=p.put:=by
  cases u:(n.keep.all λF=>!db F.1 i) with
  |false=>rw[u] at k;cases k
  |true=>rw[u] at k;cases k;rfl
 have x:aj l (λa=>g2 A i (B a)) (del i A) c some=some n:=by
  rw[<-Hw (g:=λa=>g2 h i (g a)) (λa j=>by simp only[q a j,TZ f])];refine Hx w (λa j id e=>?_) (λd z=>?_) (λm E=>?_)
  ·rw[jY,jY,o a j id (TY id e)]
  ·rw[jY,jY,t d z]
  rw[jY,jY,v m (by rw[<-D];exact E)]
 rw[x];exact k
end
section
def oc (D:Array Oper) (a:Nat):cY:=match D[a]? with
 |some b=>(b.after.toList.filter (Region.binds .any)).map (·.on)
 |none=>[]
def u6 (a:Nat):bm:=⟨some (a,.bP undef),[],[],[]⟩
def Au (ic:fq) {d:Type} (G C:cY) (a:aJ) (c:Oper) (e:bm->Option d):Option d:=
 iz ic (aO a.g) a.h c λb=>bif n1 G C (aO a.g) c b then e b else none
def gQ (ic:fq) (D:Array Oper) (G C:Nat->cY) (e:Nat) (b:aJ) (d:bm):Prop:=
 ∃a,D[e]?=some a/\((i4 D b a true/\iz ic (aO b.g) b.h a some=some d/\n1 (G e) (C e) (aO b.g) a d=true)\/(i4 D b a false/\∃c,a.dst=some c/\fx ic.n ic.pin c=true/\d=u6 c))
def qG (ic:fq) {k:Type} (D:Array Oper) (G C:Nat->cY):cY->aJ->(aJ->Option k)->Option k
 |[],a,b=>b a
 |i::e,a,b=>match D[i]? with
  |none=>none
  |some f=>match f.guard with
   |none=>Au ic (G i) (C i) a f λj=>qG ic D G C e (j.app a) b
   |some (
    l,rh)=>match(D[l]?).bind (·.dst),f.dst with
    |some d,some c=>match gt a.g d with
     |.val .bool m=>bif fx ic.n ic.pin c then
      (match m==rh with
      |true=>Au ic (G i) (C i) ⟨(d,.val .bool rh)::a.g,a.h⟩ f λj=>qG ic D G C e (j.app ⟨(d,.val .bool rh)::a.g,a.h⟩) b
      |false=>qG ic D G C e ⟨(c,.bP undef)::(d,.val .bool (!rh))::a.g,a.h⟩ b) else none
     |.bP (.tuple _)=>bif fx ic.n ic.pin c then qG ic D G C e ⟨(c,.bP undef)::a.g,a.h⟩ b else none
     |_=>none
    |_,_=>none
def l5 (ic:fq) (D:Array Oper) (G C:Nat->cY):cY->aJ->aJ->Prop
 |[],a,b=>iO a b
 |i::d,a,b=>∃c,gQ ic D G C i a c/\l5 ic D G C d (c.app a) b
theorem RD {tt:List (TypeId×ag)} {id:Nat} (a:me tt k e b c (.ref id (T::j)) d some=some p):p.keep=[(id,T::j),(id,[])]/\p.S=[id]/\ao p.put id=ao e id:=by
 have o:∀{n:al} {l:aC},ao e id=some l->ao e b=none->some (bm.mk (some (b,n)) [id] [(id,T::j),(id,[])] [(b,⟨.c6,()⟩),(id,l)])=some p->p.keep=[(id,T::j),(id,[])]/\p.S=[id]/\ao p.put id=ao e id:=(by intro n l g h q;cases q;have r:¬b=id:=λp=>(by rw[p,g] at h;cases h);exact⟨rfl,rfl,by rw[bU,if_neg r,bU,if_pos rfl,g]⟩);unfold me at a;split at a
 ·rename_i v w u x s;obtain⟨aj,_,_⟩:=EL s;cases aj;unfold vE at a;split at a
  case h_2=>cases a
  rename_i m l _ g h;split at a
  case h_2=>cases a
  rename_i f t;split at a
  case h_2=>cases a
  cases i:(a2 m f&&(Nat.ble f.size 1300&&(f.ik&&!(Nat.beq u id)))) with
  |false=>rw[i] at a;cases a
  |true=>
  rw[i] at a;obtain⟨_,_,a⟩:=bZ.1 a;obtain⟨_,_,a⟩:=bZ.1 a;exact o g h a
 unfold mV at a;split at a
 ·cases a
 rename_i m _;simp only at a;split at a
 case h_2=>cases a
 rename_i l g h;split at a
 case h_2=>cases a
 rename_i f t;cases i:(a2 m f&&Nat.ble f.size 1300&&f.ik) with
 |false=>rw[i] at a;cases a
 |true=>
 rw[i] at a;obtain⟨_,_,a⟩:=bZ.1 a;obtain⟨_,_,a⟩:=bZ.1 a;obtain⟨_,_,a⟩:=bZ.1 a;exact o g h a
theorem Cv {id:Nat} (a:p3 E h=some (id,j)):∃e f d g c b,h.op=.call {callee:=.builtin .append,args:=e,argTypes:=f}/\e.toList=[d,g]/\j=c::b/\E d=.ref id (c::b):=by
 unfold p3 at a;split at a
 case h_2=>cases a
 rename_i e f k;split at a
 case h_2=>cases a
 rename_i d g l;split at a
 case h_2=>cases a
 rename_i m c b i;cases a;exact⟨e,f,d,g,c,b,k,l,rfl,i⟩
theorem Hv {ic:fq} {g:Operand->al} {id:Nat} {i:List aV} (d:h.op=.call {callee:=.builtin .append,args:=R,argTypes:=V}) (t:R.toList=[m,w]) (s:j=T::i) (r:g m=.ref id (T::i)) (a:aj ic g e h some=some p):p.keep=[(id,j),(id,[])]/\p.S=[id]/\ao p.put id=ao e id:=by
 unfold aj at a;cases c:h.dst with
 |none=>rw[c] at a;simp only[d] at a;cases a
 |some o=>
  rw[c] at a;simp only at a;cases f:fx ic.n ic.pin o with
  |false=>rw[f] at a;cases a
  |true=>
  rw[f] at a;simp only[cond_true,d,t] at a;split at a
  case h_2=>cases a
  rename_i v x k l q u;cases q;cases b:Nat.beq k l with
  |false=>rw[b] at a;cases a
  |true=>
  rw[b,r] at a;rw[s];exact RD a
theorem Hz {ic:fq} {id:Nat} (G:p3 E h=some (id,j)) (b:iz ic E e h some=some p):p.keep=[(id,j),(id,[])]/\ao p.put id=ao e id:=by
 obtain⟨P,N,r,Q,l,k,i,q,w,m⟩:=Cv G;unfold iz at b;split at b
 ·obtain⟨a,_,F⟩:=Hv i q w m b;exact⟨a,F⟩
 generalize kL ic.m6 (so h) E (pD h.op)=c at b;cases u:lI e c with
 |false=>rw[u] at b;cases b
 |true=>
 rw[u] at b;simp only[cond_true] at b;rw[wO] at b;obtain⟨s,a,f⟩:=bZ.1 b;cases o:s.keep.all (λy=>!db y.1 c) with
 |false=>rw[o] at f;cases f
 |true=>
 rw[o] at f;cases f;have d:g2 e c (.ref id (l::k))=.ref id (l::k)\/g2 e c (.ref id (l::k))=.dead:=by
  rw[AH (by intro L e;cases e)];rcases ld e c (.ref id (l::k)) with⟨y,M,p,_⟩|⟨p,_⟩|⟨p,_⟩
  ·cases p
  ·exact .inr p
  exact .inl p
 rcases d with d|d
 ·obtain⟨z,_,J⟩:=Hv (g:=λr=>g2 e c (E r)) i q w (by show g2 e c (E r)=_;rw[m];exact d) a;refine⟨z,?_⟩;show ao s.put id=_;rw[J,jY];have I:id∉c:=λH=>by
   have:=eI.1 o (id,j) (by rw[z];simp);rw[ek.2 H] at this;cases this
  rw[if_neg I]
 exfalso;unfold aj at a;cases v:h.dst with
 |none=>rw[v] at a;simp only[i] at a;cases a
 |some C=>
  rw[v] at a;simp only at a;cases x:fx ic.n ic.pin C with
  |false=>rw[x] at a;cases a
  |true=>
  rw[x] at a;simp only[cond_true,i,q] at a;split at a
  case h_2=>cases a
  rename_i O R A B D K;cases D;cases t:Nat.beq A B with
  |false=>rw[t] at a;cases a
  |true=>
  rw[t] at a;simp only[cond_true,m,d,me,sO,mV] at a;split at a<;>cases a
section
variable {ic:fq} {D:Array Oper} {G C:Nat->cY}
theorem At.ok {e:Option (Nat×al)} {a:cU} (c:At e a=true):∀d b,e=some (d,b)->a=some d:=by
 intro d b g;subst g;cases a with
 |none=>cases c
 |some f=>rw[er (show Nat.beq d f=true from c)]
theorem HB {e j:cY} {d:Oper} {k:bm->Option a} {m:a} (f:Au ic e j i d k=some m):∃b,iz ic (aO i.g) i.h d some=some b/\n1 e j (aO i.g) d b=true/\k b=some m:=by
 unfold Au at f;rw[SV] at f;obtain⟨b,n,c⟩:=bZ.1 f;refine⟨b,n,?_⟩;cases l:n1 e j (aO i.g) d b with
 |false=>rw[l] at c;cases c
 |true=>rw[l] at c;exact⟨rfl,c⟩
def kZ (b:cY) (a:al):Prop:=(∀id∈a.ids,id∈b)\/(∃id,a=.ref id []/\id+500000∈b)\/∃id c,oS a=some (id,c)/\id<500000/\id+1000000*c∈b/\∀d∈a.ids,d=id\/d∈b
theorem qJ.ok (a:qJ g d=true):∃id b,oS d=some (id,b)/\id<500000/\id+1000000*b∈g/\∀c∈d.ids,c=id\/c∈g:=by
 unfold qJ at a;split at a
 case h_2=>cases a
 rename_i id b e;simp only[bd] at a;refine⟨id,b,e,eM a.1,ek.1 a.2.1,λc f=>?_⟩;have:=eI.1 a.2.2 c f;rw[fZ] at this;exact this.imp er ek.1
theorem ns.ok (a:ns g d=true):∃id,d=.ref id []/\id+500000∈g:=by
 unfold ns at a;split at a
 ·exact⟨_,rfl,ek.1 a⟩
 cases a
theorem kZ.ok {c:cY} {b:al} (a:(nt b.ids c||ns c b)=true):kZ c b:=by
 rcases fZ _ _▸a with a|a
 ·exact .inl (nt.ok a)
 exact .inr (.inl (ns.ok a))
theorem kZ.WN (a:(nt d.ids g||(ns g d||qJ g d))=true):kZ g d:=by
 simp only[fZ] at a;rcases a with a|a|a
 ·exact .inl (nt.ok a)
 ·exact .inr (.inl (ns.ok a))
 exact .inr (.inr (qJ.ok a))
theorem HP (a:uo j=some b):1<=b:=by
 unfold uo at a;split at a
 ·cases a;exact a8 _
 split at a<;>first|(cases a;done)|(cases a;omega)
theorem Hb {id:Nat} (a:oS d=some (id,b)):1<=b:=by
 unfold oS at a;split at a
 ·split at a
  ·rename_i c;cases a;exact HP c
  cases a
 ·split at a
  ·rename_i c;cases a;exact HP c
  cases a
 ·split at a
  ·cases a;omega
  cases a
 cases a
def FZ (e:Op) (c:cY) (b:al):Prop:=
 (∃f d g a,e=.extract f d/\b=.dw g/\g[d]?=some a/\q0 a=true/\kZ c a)\/
 ((∀f d,e≠.extract f d)/\yy b=true/\kZ c b/\((∀id∈b.ids,id∈c\/∃a,1<=a/\id<500000/\id+1000000*a∈c)\/ux e=true))
theorem mA.ok {l:Op} {h:cY} {g:al} (a:mA l h g=true):FZ l h g:=by
 unfold mA at a;split at a
 ·rename_i f b;split at a
  case h_2=>cases a
  rename_i q;split at a
  case h_2=>cases a
  rename_i d o;rw[bd] at a;exact .inl ⟨f,b,q,d,rfl,rfl,o,a.1,.ok a.2⟩
 rename_i p;simp only[bd,fZ] at a;refine .inr ⟨λf b c=>p f b c,a.1,?_⟩;rcases a.2 with a|⟨a,m⟩|a
 ·exact⟨.inl (nt.ok a),.inl λb e=>.inl (nt.ok a b e)⟩
 ·exact⟨.inr (.inl (ns.ok m)),.inr a⟩
 obtain⟨id,d,i,n,j,k⟩:=qJ.ok a;refine⟨.inr (.inr ⟨id,d,i,n,j,k⟩),.inl λb e=>?_⟩;rcases k b e with c|c
 ·exact .inr ⟨d,Hb i,U,by rw[c];exact j⟩
 exact .inl c
theorem n1.ok {j b:cY} {k:Operand->al} {g:Oper} {c:bm} (a:n1 j b k g c=true):(∀d f,c.d=some (d,f)->g.dst=some d)/\(∀l∈g.op.operands,FZ g.op j (k l))/\(∀id∈c.S,id<500000/\(id∈b/\(id+500000∈b\/jW c.keep (.ref id [])=true)\/id+1500000∈b))/\(∀h∈c.put,h.1<500000/\(h.1∈b\/h.1+1500000∈b))/\(∀d f,c.d=some (d,f)->kZ j f)/\(∀e∈b,1000000<=e->∃id i,p3 k g=some (id,i)/\e %1000000=id+500000/\id<500000/\Bq i (e/1000000)=true):=by
 unfold n1 at a;simp only[bd] at a;obtain⟨⟨⟨⟨n,o⟩,p⟩,q⟩,m,r⟩:=a;refine⟨At.ok n,λl x=>?_,λid u=>?_,λh w=>?_,λd f t=>?_,λe v y=>?_⟩
 ·exact mA.ok (eI.1 o l (by simpa using x))
 ·have:=eI.1 p id u;simp only[bd,fZ] at this;exact⟨eM this.1,this.2.imp (λa=>⟨ek.1 a.1,a.2.imp ek.1 (λa=>a)⟩) ek.1⟩
 ·have:=eI.1 q h w;simp only[bd,fZ] at this;exact⟨eM this.1,this.2.imp ek.1 ek.1⟩
 ·rw[t] at m;exact kZ.WN m
 have:=eI.1 r e v;rw[fZ] at this;rcases this with a|a
 ·have:e<1000000:=eM a;omega
 split at a
 case h_2=>cases a
 rename_i id i s;simp only[bd] at a;exact⟨id,i,s,er a.1,eM a.2.1,a.2.2⟩
def oM (d:cY) (a c:al):Prop:=(yy a=true->kZ d a->c=a)/\∀f,a=.dw f->∃g,c=.dw g/\∀(e:Nat) (b:al),f[e]?=some b->q0 b=true->kZ d b->g[e]?=some b
theorem oM.refl (a:t=d):oM g d t:=⟨λ_ _=>a,λc b=>⟨c,by rw[a,b],λ_ _ a _ _=>a⟩⟩
theorem oM.mA {d:cY} {j:Op} {e f:al} (g:oM d e f) (c:mA j d e=true):i9.mA j d f=true:=by
 rcases mA.ok c with⟨r,o,p,k,h,a,b,i,m⟩|⟨h,a,b,i⟩
 ·obtain⟨q,l,n⟩:=g.2 p a;subst h a l;simp only[i9.mA,b,n o k b i m] at c|-;exact c
 rw[g.1 a b];exact c
theorem SW {ic:fq} {g:List al} (c:h.op=.extract m b) (a:iz ic E e h some=some p) (i:E m=.dw L) (j:Y m=.dw g) (k:L[b]?=some d) (l:g[b]?=some d):iz ic Y P h some=some p:=by
 unfold iz at a|-;have n:∀E:Operand->al,kL ic.m6 (so h) E (pD h.op)=[]:=λE=>(by rw[c];rfl);rw[n] at a|-;simp only at a|-;unfold aj at a|-;cases f:h.dst with
 |none=>rw[f] at a;simp only[c] at a;cases a
 |some o=>
  rw[f] at a;simp only[c,iW,e7,AA,i,j,k,l] at a|-;exact a
theorem SY {ic:fq} (d:ux h.op=true) (a:iz ic E e h some=some p) (i:∀b∈h.op.operands,E b=Y b):iz ic Y P h some=some p:=by
 unfold ux at d;split at d
 ·rename_i b c;have j:E b=Y b:=i b (by rw[c];simp[Op.operands]);unfold iz at a|-;have g:∀E:Operand->al,kL ic.m6 (so h) E (pD h.op)=[]:=λE=>(by rw[c];rfl);rw[g] at a|-;simp only at a|-;unfold aj at a|-;cases f:h.dst with
  |none=>rw[f] at a;simp only[c] at a;cases a
  |some k=>
   rw[f] at a;simp only[c,iW,e7,<-j] at a|-;exact a
 cases d
theorem Vn (a:.tmp b∈h.op.operands):b∈h.looksAt D:=
 mO _ (List.mem_filterMap.2 ⟨.tmp b,by simpa using a,rfl⟩)
theorem Vo (a:h.guard=some (l,I)) (c:(D[l]?).bind (·.dst)=some b):b∈h.looksAt D:=
 k2 _ (by rw[a];simp only[c];simp)
theorem ME {k:cY} (l:∀f∈h.looksAt D,oM k (gt i.g f) (gt X.g f)) (a:i4 D i h I):i4 D X h I:=by
 unfold i4 at*;cases c:h.guard with
 |none=>rw[c] at a;exact a
 |some n=>
  obtain⟨m,p⟩:=n;rw[c] at a;simp only at a|-;cases d:(D[m]?).bind (·.dst) with
  |none=>rw[d] at a;exact a
  |some j=>
   rw[d] at a;simp only at a|-;have e:=l j (Vo c d);split at a
   ·rename_i q b;rw[e.1 (by rw[b];rfl) (by rw[b];exact .inl (by simp[al.ids])),b];exact a
   ·rename_i o b;rw[e.1 (by rw[b];rfl) (by rw[b];exact .inl (by simp[al.ids])),b];exact a
   exact a.elim
theorem gQ.congr (d:gQ ic D G C b i p) (r:∀c,D[b]?=some c->∀z∈c.looksAt D,oM (G b) (gt i.g z) (gt X.g z)) (s:∀c,D[b]?=some c->∀id,id∈G b\/id∈C b\/c.dst=some id->ao i.h id=ao X.h id) (an:∀id j,1<=j->id<500000->id+1000000*j∈G b->ao i.h id=ao X.h id):gQ ic D G C b X p:=by
 obtain⟨c,F,d⟩:=d;have r:=r c F;have s:=s c F;refine⟨c,F,d.imp (λ⟨q,l,f⟩=>⟨ME r q,?_⟩) (λ⟨q,l⟩=>⟨ME r q,l⟩)⟩;obtain⟨ds,f2,d0,f4,f5,V⟩:=n1.ok f;have x:∀a∈c.op.operands,oM (G b) (aO i.g a) (aO X.g a):=by
  intro a e;cases a with
  |tmp z=>exact r z (Vn e)
  |const ce=>exact .refl (by cases ce<;>rfl)
  |func dl=>exact .refl rfl
  |global M=>exact .refl rfl
 constructor
 ·by_cases N:∃a H,c.op=.extract a H
  ·obtain⟨a,H,w⟩:=N;have e:a∈c.op.operands:=(by rw[w];simp[Op.operands]);rcases f2 a e with⟨L,I,J,j,k,u,v,W,Y⟩|⟨k,_⟩
   ·rw[w] at k;cases k;obtain⟨d1,ar,a4⟩:=(x a e).2 J u;exact SW w l u ar v (a4 _ j v W Y)
   exact absurd w (k a H)
  have E:∀a∈c.op.operands,yy (aO i.g a)=true/\kZ (G b) (aO i.g a)/\((∀id∈(aO i.g a).ids,id∈G b\/∃j,1<=j/\id<500000/\id+1000000*j∈G b)\/ux c.op=true):=λa e=>by
   rcases f2 a e with⟨L,I,J,j,k,_⟩|⟨_,M⟩
   ·exact absurd ⟨L,I,k⟩ N
   exact M
  have m:∀a∈c.op.operands,aO i.g a=aO X.g a:=λa e=>((x a e).1 (E a e).1 (E a e).2.1).symm;by_cases O:ux c.op=true
  ·exact SY O l m
  have Q:∀a∈c.op.operands,∀id∈(aO i.g a).ids,ao i.h id=ao X.h id:=λa e id am=>by
   rcases((E a e).2.2.resolve_right O) id am with d|⟨j,q,l,f⟩
   ·exact s id (.inl d)
   exact an id j q l f
  refine SX l m Q (λT ad=>s T (.inr (.inr ad))) (λK P=>?_);rcases(f4 K P).2 with d|d
  ·exact s _ (.inr (.inl d))
  obtain⟨id,n,R,cs,cv,_⟩:=V _ d U;have:=(f4 K P).1;obtain⟨ci,bs,a,co,bl,ar,o,t,_,A⟩:=Cv R;have y:a∈c.op.operands:=(by rw[o];exact qU (by rw[t];simp));exact Q a y K.1 (by rw[A];simp only[al.ids,dP];omega)
 unfold n1 at*;have:(c.op.operands.toList.all λa=>mA c.op (G b) (aO X.g a))=true:=(by simp only[bd] at f;rw[eI];intro a e;exact(x a (by simpa using e)).mA (eI.1 f.1.1.1.2 a e));have Z:∀id n,p3 (aO i.g) c=some (id,n)->p3 (aO X.g) c=some (id,n):=λid n m=>by
  obtain⟨ci,bs,a,co,bl,ar,o,t,S,A⟩:=Cv m;have y:a∈c.op.operands:=(by rw[o];exact qU (by rw[t];simp));have a0:aO X.g a=aO i.g a:=by
   rcases f2 a y with⟨L,I,J,j,k,_⟩|⟨_,u,v,_⟩
   ·rw[o] at k;cases k
   exact(x a y).1 u v
  unfold p3;rw[o];simp only[t,a0,A,S]
 have av:EO (C b) (aO X.g) c=true:=by
  simp only[bd] at f;have B:=f.2.2;unfold EO at B|-;rw[eI] at B|-;intro a3 ap;have:=B a3 ap;rw[fZ] at this|-;refine this.imp (λd=>d) (λd=>?_);split at d
  case h_2=>cases d
  rename_i id n m;rw[Z id n m];exact d
 simp only[bd] at f|-;exact⟨⟨⟨⟨f.1.1.1.1,this⟩,f.1.1.2⟩,f.1.2⟩,f.2.1,av⟩
theorem gQ.Av (g:gQ ic D G C b i p) {v:Oper} (K:D[b]?=some v):(∀f c,p.d=some (f,c)->v.dst=some f)/\(∀id∈p.S,id<500000/\(id∈C b/\(id+500000∈C b\/jW p.keep (.ref id [])=true)\/id+1500000∈C b))/\(∀n∈p.put,n.1<500000/\(n.1∈C b\/n.1+1500000∈C b))/\(∀f c,p.d=some (f,c)->kZ (G b) c)/\(∀id,id<500000->id+1500000∈C b->ao (p.app i).h id=ao i.h id)/\(∀id a e,id∈p.S->id<500000->id+1000000*a+500000∈C b->1<=a->oS e=some (id,a)->(∀u∈e.ids,u=id\/u∉p.S)->hL p.S p.keep e=true):=by
 obtain⟨N,t,g⟩:=g;rw[K] at t;cases t;rcases g with⟨_,r,g⟩|⟨_,f,H,_,rfl⟩
 ·obtain⟨z,f2,A,f4,f5,q⟩:=n1.ok g;refine⟨z,A,f4,f5,λid I m=>?_,λid a e s I m M F J=>?_⟩
  ·obtain⟨j,L,k,w,x,_⟩:=q _ m U;obtain rfl:j=id:=U;obtain⟨_,E⟩:=Hz k r;rw[bm.p4,E];cases ao i.h j with
   |none=>simp
   |some O=>rfl
  obtain⟨j,L,k,w,x,o⟩:=q _ m U;obtain rfl:j=id:=U;obtain⟨B,_⟩:=Hz k r;rw[B];refine Yv ?_ F J;have:(j+1000000*a+500000)/1000000=a:=U;rw[this] at o;exact o
 refine⟨λy c l=>?_,by simp[u6],by simp[u6],λy c l=>?_,λid _ _=>rfl,λid a e s=>by cases s⟩
 ·cases l;exact H
 cases l;exact .inl (by simp[al.ids])
structure vB (f S:cY) (keep:List (Nat×List aV)):Prop where
 a:∀id∈S,id∉f
 b:∀id∈S,id+500000∈f->jW keep (.ref id [])=true
 c:∀id∈S,∀c v,1<=c->id<500000->id+1000000*c∈f->oS v=some (id,c)->(∀j∈v.ids,j=id\/j∉S)->hL S keep v=true
theorem w7 (b:cY) (c:List (Nat×List aV)) (a:al):dt b c a=.dead\/dt b c a=a:=by unfold dt;cases(a.dJ b&&!(hL b c a))<;>simp
theorem DR (b:q0 (dt g f d)=true):dt g f d=d:=by
 rcases w7 g f d with a|a
 ·rw[a] at b;cases b
 exact a
theorem DQ (a:∀id∈d.ids,id∉g):dt g f d=d:=by refine B2 ?_ f;unfold al.dJ;rw[th];intro id b c;exact a id b (ek.1 c)
theorem UC (a:∀id∈d.ids,id∉g):ef g f d=d:=by refine aaT ?_ f;unfold al.dJ;rw[th];intro id b c;exact a id b (ek.1 c)
theorem IF {n:cY} (e:kZ n d) (i:vB n g f):dt g f d=d:=by
 rcases e with e|⟨id,rfl,e⟩|⟨id,r,o,s,t,p⟩
 ·exact DQ λid u h=>i.a id h (e id u)
 ·by_cases h:id∈g
  ·unfold dt;rw[show hL g f (.ref id [])=jW f (.ref id []) from rfl,i.b id h e];simp
  exact DQ λm j k=>by simp only[al.ids,dP] at j;exact h (j▸k)
 by_cases h:id∈g
 ·unfold dt;rw[i.c id h r d (Hb o) s t o (λq v=>(p q v).imp (λe=>e) (λe h=>i.a q h e))];simp
 exact DQ λm j k=>by
  rcases p m j with l|l
  ·exact h (l▸k)
  exact i.a m k l
theorem w6 {e:cY} (b:kZ e d) (h:vB e g f):ef g f d=d:=by
 cases d with
 |dw l=>
  rcases b with b|⟨id,c,_⟩|⟨id,k,c,_⟩
  ·exact UC λid i j=>h.a id j (b id i)
  ·cases c
  cases c
 |_=>exact IF b h
theorem IE (a:cY) (b:List (Nat×List aV)) (d:cY) (e:List (Nat×List aV)) (c:al):dt a b (dt d e c)=dt d e (dt a b c):=by have h:∀a b,dt a b .dead=.dead:=λa b=>(by simp[dt,al.dJ,al.ids]);rcases w7 a b c with f|f<;>rcases w7 d e c with g|g<;>simp only[f,g,h]
theorem w5 (b:∀a,d≠.dw a):ef g f d=dt g f d:=by
 cases d with
 |dw a=>exact absurd rfl (b a)
 |_=>rfl
theorem AW (c:cY) (d:List (Nat×List aV)) (f:cY) (i:List (Nat×List aV)) (b:al):ef c d (ef f i b)=ef f i (ef c d b):=by
 by_cases k:∃a,b=.dw a
 ·obtain⟨a,rfl⟩:=k;simp only[ef,pR];exact congrArg _ (hW λb _=>IE c d f i b)
 have h:∀a,b≠.dw a:=λa e=>k ⟨a,e⟩;have j:∀c d,∀a,dt c d b≠.dw a:=λc d a e=>by
  rcases w7 c d b with g|g
  ·rw[g] at e;cases e
  rw[g] at e;exact h a e
 rw[w5 h,w5 h,w5 (j _ _),w5 (j _ _),IE]
theorem UE (n e:cY) (f:List (Nat×List aV)) (c:al):oM n (ef e f c) c:=by
 by_cases l:∃a,c=.dw a
 ·obtain⟨a,rfl⟩:=l;refine⟨λb _=>?_,λt j=>⟨a,rfl,λs q k g _=>?_⟩⟩
  ·simp only[ef] at b|-;have b:∀i∈a.map (dt e f),q0 i=true:=eI.1 b;congr 1;rw[hW (λi p=>DR (b _ (bR.2 ⟨i,p,rfl⟩))),List.map_id']
  simp only[ef,al.dw.injEq] at j;subst j;rw[eS] at k;obtain⟨r,o,rfl⟩:=dZ.1 k;rw[DR g,o]
 have g:∀a,c≠.dw a:=λa d=>l ⟨a,d⟩;rw[w5 g];have h:∀a,dt e f c≠.dw a:=λa d=>by
  rcases w7 e f c with b|b
  ·rw[b] at d;cases d
  rw[b] at d;exact g a d
 refine⟨λb _=>?_,λa d=>absurd d (h a)⟩;have:q0 (dt e f c)=true:=by
  generalize dt e f c=m at b h;cases m with
  |dw a=>exact absurd rfl (h a)
  |_=>exact b
 exact(DR this).symm
theorem UF {b:cY} (a:al) (c:vB b g f):oM b a (ef g f a):=by refine⟨λ_ e=>w6 e c,λl d=>?_⟩;subst d;refine⟨_,rfl,λk j h _ i=>?_⟩;rw[eS,h,fB,IF i c]
theorem Gx (e:∀a c,p.d=some (a,c)->a≠b):gt (p.app i).g b=ef p.S p.keep (gt i.g b):=by
 rw[bm.rG];cases f:p.d with
 |none=>rfl
 |some h=>obtain⟨a,c⟩:=h;simp only;rw[if_neg (e a c f)]
theorem UZ {c:List (Nat×a)} {id:Nat} (d:∀b∈c,b.1≠id):ao c id=none:=by
 induction c with
 |nil=>rfl
 |cons b c f=>
  obtain⟨g,h⟩:=b;rw[bU,if_neg (d (g,h) ab),f (λb e=>d b (by simp[e]))]
theorem Gy {id:Nat} (a:id∉p.S) (b:∀c∈p.put,c.1≠id):ao (p.app i).h id=ao i.h id:=by rw[bm.p4,if_neg a,UZ b];rfl
def qt (b c:cY):Bool:=b.all λa=>!(db a c)
theorem qt.ok {b:cY} (c:qt g b=true):∀a∈g,a∉b:=λa d e=>by have:=eI.1 c a d;rw[ek.2 e] at this;cases this
def dl (b:Oper):cY:=match b.dst with
 |some a=>[a]
 |none=>[]
theorem uI (a:h.dst=some b):b∈dl h:=by unfold dl;rw[a];simp
def qu (b c:cY):Bool:=b.all λa=>Nat.ble 1000000 a||!(db a c)
theorem qu.ok {c:cY} (a:qu g c=true):∀b∈g,b<1000000->b∉c:=λb d f e=>by
 have:=eI.1 a b d;rw[ek.2 e,fZ] at this;rcases this with a|a
 ·have:=eM a;omega
 cases a
def pc (e d f b:cY):Bool:=(b.all λa=>Nat.blt a 1000000||(!(db (a %1000000-500000) e)&&(!(db (a %1000000-500000) d)&&!(db (a %1000000-500000) f))))&&d.all λc=>Nat.blt c 1000000||(!(db (c %1000000) b)&&(!(db (c %1000000+1500000) b)||db (c+500000) b))
theorem pc.ok {d f j:cY} (a:pc d f j g=true):(∀id,id<500000->id+1500000∈g->id∉d/\id∉f/\id∉j)/\∀id b,1<=b->id<500000->id+1000000*b∈f->id∉g/\(id+1500000∈g->id+1000000*b+500000∈g):=by
 unfold pc at a;rw[bd] at a;have e:∀{h:Nat} {i:cY},(!(db h i))=true->h∉i:=λ{h i} a c=>(by rw[ek.2 c] at a;cases a);constructor
 ·intro id l c;have:=eI.1 a.1 _ c;rw[fZ] at this;rcases this with a|a
  ·have:id+1500000<1000000:=eM a;omega
  rw[(U:(id+1500000) %1000000-500000=id)] at a;simp only[bd] at a;exact⟨e a.1,e a.2.1,e a.2.2⟩
 intro id b m l c;have:=eI.1 a.2 _ c;rw[fZ] at this;rcases this with a|a
 ·have:id+1000000*b<1000000:=eM a;omega
 rw[(U:(id+1000000*b) %1000000=id)] at a;simp only[bd,fZ] at a;refine⟨e a.1,λk=>?_⟩;rcases a.2 with a|a
 ·exact absurd k (e a)
 exact ek.1 a
def rQ (D:Array Oper) (G C:Nat->cY) (a b:Nat):Bool:=
 match D[a]?,D[b]? with
 |some d,some c=>d.apart D c&&qu (C b) (dl d++(G a++C a))&&qu (C a) (dl c++G b)&&(pc (dl d) (G a) (C a) (C b)&&pc (dl c) (G b) (C b) (C a))
 |_,_=>false
theorem gQ.uD (a:gQ ic D G C b i p) {id:Nat} (m:500000<=id):ao (p.app i).h id=ao i.h id:=by obtain⟨k,c,j⟩:=a;have a:gQ ic D G C b i p:=⟨k,c,j⟩;obtain⟨_,d,e,_⟩:=a.Av c;exact Gy (λf=>by have:=(d id f).1;omega) (λl g p=>by have:=(e l g).1;omega)
theorem gQ.qN (d:gQ ic D G C b i p) {id:Nat} (e:id∉C b):ao (p.app i).h id=ao i.h id:=by
 obtain⟨o,f,n⟩:=d;have d:gQ ic D G C b i p:=⟨o,f,n⟩;obtain⟨_,g,j,_,k,_⟩:=d.Av f;by_cases c:id<500000/\id+1500000∈C b
 ·exact k id c.1 c.2
 refine Gy (λl=>?_) (λq m p=>?_)
 ·obtain⟨ar,a⟩:=g id l;rcases a with a|a
  ·exact e a.1
  exact c ⟨ar,a⟩
 subst p;obtain⟨ar,a⟩:=j q m;rcases a with a|a
 ·exact e a
 exact c ⟨ar,a⟩
theorem gQ.swap {f:bm} (m:rQ D G C l b=true) (q:gQ ic D G C l i f) (B:gQ ic D G C b (f.app i) p):gQ ic D G C b i p/\gQ ic D G C l (p.app i) f/\iO (p.app (f.app i)) (f.app (p.app i)):=by
 unfold rQ at m;split at m
 case h_2=>cases m
 rename_i bs bl R Q;simp only[bd] at m;obtain⟨⟨⟨d3,M⟩,N⟩,d5,d6⟩:=m;have M:=qu.ok M;have N:=qu.ok N;obtain⟨d1,ap⟩:=pc.ok d5;obtain⟨d2,av⟩:=pc.ok d6;obtain⟨dl,ds,d0⟩:=Oper.apart_spec d3;obtain⟨co,an,ex,cs,fn,cv⟩:=q.Av R;obtain⟨i1,V,em,a3,eq,a4⟩:=B.Av Q;have el:∀o∈bl.looksAt D,gt (f.app i).g o=ef f.S f.keep (gt i.g o):=λo x=>Gx λe v A z=>dl e (co e v A) (z▸x);have d9:∀o∈bs.looksAt D,gt (p.app i).g o=ef p.S p.keep (gt i.g o):=λo x=>Gx λe v A z=>d0 e (i1 e v A) (z▸x);have P:∀e J s K,p.d=some (e,J)->f.d=some (s,K)->e≠s:=λe J s K A d4 z=>ds s (co s K d4) (z▸i1 e J A);have F:∀id,id<1000000->id∈G l\/id∈C l\/bs.dst=some id->id∉C b:=λid j c u=>M id u j (by
  rcases c with c|c|c
  ·simp[c]
  ·simp[c]
  simp[uI c])
 have H:∀id,id<1000000->id∈G b\/bl.dst=some id->id∉C l:=λid j c u=>N id u j (by
  rcases c with c|c
  ·simp[c]
  simp[uI c])
 have ci:∀id,id<1000000->id∈C b->id∉C l:=λid j c u=>F id j (.inr (.inl u)) c;have ce:vB (G b) f.S f.keep:=by
  refine⟨λid k h=>?_,λid k h=>?_,λid k t am m n h T w=>?_⟩
  ·obtain⟨ar,a⟩:=an id k;rcases a with a|a
   ·exact H id U (.inl h) a.1
   exact(d2 id ar a).2.1 h
  ·obtain⟨ar,a⟩:=an id k;rcases a with a|a
   ·exact a.2.resolve_left (H _ U (.inl h))
   exact cv id 1 (.ref id []) k ar (by rw[(U:id+1000000*1+500000=id+1500000)];exact a) (a8 _) rfl (λd7 w=>.inl (by simpa[al.ids] using w))
  obtain⟨_,a⟩:=an id k;obtain⟨Y,Z⟩:=av id t m n h;rcases a with a|a
  ·exact absurd a.1 Y
  exact cv id t am k n (Z a) m T w
 have ad:vB (G l) p.S p.keep:=by
  refine⟨λid k h=>?_,λid k h=>?_,λid k t am m n h T w=>?_⟩
  ·obtain⟨ar,a⟩:=V id k;rcases a with a|a
   ·exact F id U (.inl h) a.1
   exact(d1 id ar a).2.1 h
  ·obtain⟨ar,a⟩:=V id k;rcases a with a|a
   ·exact a.2.resolve_left (F _ U (.inl h))
   exact a4 id 1 (.ref id []) k ar (by rw[(U:id+1000000*1+500000=id+1500000)];exact a) (a8 _) rfl (λd7 w=>.inl (by simpa[al.ids] using w))
  obtain⟨_,a⟩:=V id k;obtain⟨Y,Z⟩:=ap id t m n h;rcases a with a|a
  ·exact absurd a.1 Y
  exact a4 id t am k n (Z a) m T w
 have y:gQ ic D G C b i p:=by
  refine B.congr (λW r o x=>?_) (λW r id n=>?_) (λid t m n h=>?_)
  ·rw[Q] at r;cases r;rw[el o x];exact UE _ _ _ _
  ·rw[Q] at r;cases r;rcases bp id 500000 with j|j
   ·refine q.qN ?_;rcases n with c|c|c
    ·exact H id U (.inl c)
    ·exact ci id U c
    exact H id U (.inr c)
   exact q.uD j
  exact q.qN (av id t m n h).1
 have I:gQ ic D G C l (p.app i) f:=by
  refine q.congr (λW r o x=>?_) (λW r id n=>?_) (λid t m n h=>?_)
  ·rw[R] at r;cases r;rw[d9 o x];exact UF _ ad
  ·rw[R] at r;cases r;rcases bp id 500000 with j|j
   ·exact(y.qN (F id U n)).symm
   exact(y.uD j).symm
  exact(y.qN (ap id t m n h).1).symm
 refine⟨y,I,?_,λid=>?_⟩
 ·intro o;rw[bm.rG p,bm.rG f (p.app i),bm.rG f i,bm.rG p i];cases O:f.d with
  |none=>
   cases E:p.d with
   |none=>exact AW _ _ _ _ _
   |some X=>
    obtain⟨e,v⟩:=X;simp only;split
    ·exact(w6 (a3 e v E) ce).symm
    exact AW _ _ _ _ _
  |some d8=>
   obtain⟨s,L⟩:=d8;cases E:p.d with
   |none=>
    simp only;split
    ·exact w6 (cs s L O) ad
    exact AW _ _ _ _ _
   |some X=>
    obtain⟨e,v⟩:=X;have P:e≠s:=P e v s L E O;simp only;by_cases q:e=o
    ·subst q;rw[if_pos rfl,if_neg (Ne.symm P),if_pos rfl];exact(w6 (a3 e v E) ce).symm
    rw[if_neg q,if_neg q];split
    ·exact w6 (cs s L O) ad
    exact AW _ _ _ _ _
 rcases bp id 500000 with j|j
 ·by_cases u:id∈C b
  ·have a0:=ci id U u;rw[I.qN a0,bm.p4 p,bm.p4 p,q.qN a0]
  rw[B.qN u,bm.p4 f,bm.p4 f,y.qN u]
 rw[B.uD j,q.uD j,I.uD j,y.uD j]
theorem gQ.seq (a:iO i X) (c:gQ ic D G C b i p):gQ ic D G C b X p:=
 c.congr (λ_ _ d _=>.refl (a.g d).symm) (λ_ _ id _=>a.h id) (λid _ _ _ _=>a.h id)
theorem l5.seq:∀{c:cY} {d e f:aJ},iO d e->l5 ic D G C c d f->l5 ic D G C c e f
 |[],_,_,_,a,h=>a.symm.trans h
 |_::_,_,_,_,a,⟨b,g,i⟩=>⟨b,g.seq a,l5.seq (a.app b) i⟩
theorem l5.front {g:Nat} {h:cY}:∀{b:cY} {a d:aJ},(∀x∈b,rQ D G C x g=true)->l5 ic D G C (b++g::h) a d->∃c,gQ ic D G C g a c/\l5 ic D G C (b++h) (c.app a) d
 |[],a,d,_,⟨c,e,f⟩=>⟨c,e,f⟩
 |x::b,a,d,i,⟨k,e,f⟩=>by obtain⟨j,o,p⟩:=l5.front (λr q=>i r (by simp[q])) f;obtain⟨l,m,n⟩:=gQ.swap (i x ab) e o;exact⟨j,l,k,m,p.seq n⟩
end
end
section
section
variable {ic:fq} {F:Array Oper} {gT gj:Nat->cY}
theorem wZ {E:Type} {B:aJ->Option E} {D:E}:∀{z:cY} {b:aJ},qG ic F gT gj z b B=some D->∃c,l5 ic F gT gj z b c/\B c=some D
 |[],b,a=>⟨b,iO.refl b,a⟩
 |i::z,b,a=>by
  simp only[qG] at a;split at a
  ·cases a
  rename_i s r;split at a
  ·rename_i o;obtain⟨f,v,w,x⟩:=HB a;obtain⟨c,k,l⟩:=wZ x;exact⟨c,⟨f,⟨s,r,.inl ⟨by unfold i4;rw[o],v,w⟩⟩,k⟩,l⟩
  rename_i J A o;split at a
  case h_2=>cases a
  rename_i q e y C;split at a
  case h_3=>cases a
  case h_2=>
   rename_i K p;cases j:fx ic.n ic.pin e with
   |false=>rw[j] at a;cases a
   |true=>
   rw[j] at a;obtain⟨c,k,l⟩:=wZ a;refine⟨c,⟨u6 e,⟨s,r,.inr ⟨?_,e,C,j,rfl⟩⟩,k⟩,l⟩;unfold i4;rw[o];simp only[y,p]
  rename_i d p;cases j:fx ic.n ic.pin e with
  |false=>rw[j] at a;cases a
  |true=>
  rw[j] at a;simp only[cond_true] at a;have t:∀u,d=u->iO ⟨(q,.val .bool u)::b.g,b.h⟩ b:=λu m=>⟨λI=>by
   show gt ((q,_)::b.g) I=_;rw[hk];split
   ·rename_i f;rw[<-f,p,m]
   rfl,λ_=>rfl⟩
  split at a
  ·rename_i m;obtain rfl:d=A:=(by simpa using m);obtain⟨f,v,w,x⟩:=HB a;obtain⟨c,k,l⟩:=wZ x;have G:gQ ic F gT gj i ⟨(q,.val .bool d)::b.g,b.h⟩ f:=by
    refine⟨s,r,.inl ⟨?_,v,w⟩⟩;unfold i4;rw[o];simp only[y,(t d rfl).g q,p];simp
   exact⟨c,⟨f,G.seq (t d rfl),k.seq ((t d rfl).app f)⟩,l⟩
  rename_i m;have H:d=!A:=by cases d<;>cases A<;>first|rfl|cases m
  obtain⟨c,k,l⟩:=wZ a;refine⟨c,⟨u6 e,⟨s,r,.inr ⟨?_,e,C,j,rfl⟩⟩,k.seq ((t _ H).app (u6 e))⟩,l⟩;unfold i4;rw[o];simp only[y,p];exact m
structure kc where
 i:Nat
 d:cY
 ao:cY
 ps:cY
 gT:cY
 gj:cY
def qz:cY->cY->Bool
 |[],[]=>true
 |a::c,b::d=>Nat.beq a b&&qz c d
 |_,_=>false
theorem n0:∀{c d:cY},qz c d=true->c=d
 |[],[],_=>rfl
 |a::c,e::d,b=>by simp only[qz,bd] at b;rw[er b.1,n0 b.2]
 |[],_::_,b=>by cases b
 |_::_,[],b=>by cases b
def oi (F:Array Oper) (gT gj:Nat->cY) (a:kc):Bool:=match F[a.i]? with
 |some b=>qz (dl b) a.d&&qz (b.looksAt F) a.ao&&qz (oc F a.i) a.ps&&qz (gT a.i) a.gT&&qz (gj a.i) a.gj
 |none=>false
def CL (a b:kc):Bool:=qt a.d b.ao&&qt a.d b.d&&qt b.d a.ao&&qu b.gj (a.d++(a.gT++a.gj))&&qu a.gj (b.d++b.gT)&&(pc a.d a.gT a.gj b.gj&&pc b.d b.gT b.gj a.gj)
theorem Sy {l j:kc} (b:oi F gT gj l=true) (a:oi F gT gj j=true) (d:CL l j=true):rQ F gT gj l.i j.i=true:=by
 unfold oi at b a;split at b
 case h_2=>cases b
 rename_i y s;split at a
 case h_2=>cases a
 rename_i x r;simp only[bd] at b a;obtain⟨⟨⟨⟨z,A⟩,E⟩,B⟩,C⟩:=b;obtain⟨⟨⟨⟨i1,t⟩,D⟩,u⟩,v⟩:=a;unfold CL at d;rw[<-n0 z,<-n0 A,<-n0 B,<-n0 C,<-n0 i1,<-n0 t,<-n0 u,<-n0 v] at d;simp only[bd] at d;obtain⟨⟨⟨⟨⟨f,g⟩,h⟩,n⟩,o⟩,p,q⟩:=d;unfold rQ;simp only[s,r,n,o,p,q,Bool.and_true];have f:=qt.ok f;have g:=qt.ok g;have h:=qt.ok h;unfold Oper.apart;rw[bd];constructor
 ·cases e:y.dst with
  |none=>rfl
  |some c=>
   have k:=f c (uI e);have w:=g c (uI e);simp only[bd,vi];refine⟨?_,?_⟩
   ·rw[<-Bool.not_eq_true,List.contains_iff_mem];exact k
   rw[bne_iff_ne];intro m;exact w (uI m)
 cases e:x.dst with
 |none=>rfl
 |some c=>
  have k:=h c (uI e);simp only[vi];rw[<-Bool.not_eq_true,List.contains_iff_mem];exact k
def jM (a b:Nat):Bool:=Nat.beq (Nat.land (Nat.shiftRight a b) 1) 1
def Cp (a b:Nat):Nat:=Nat.lor a (Nat.shiftLeft 1 b)
theorem tD:jM b l=true↔b.testBit l=true:=by
 unfold jM;rw[Nat.testBit_eq_decide_div_mod_eq];show Nat.beq ((b>>>l)&&&1) 1=true↔_;rw[Nat.shiftRight_eq_div_pow,Nat.and_one_is_mod];constructor
 ·intro a;exact decide_eq_true (er a)
 intro a;rw[of_decide_eq_true a];rfl
theorem GU (a:jM (Nat.lor l W) b=true):jM l b=true\/jM W b=true:=by rw[tD] at a|-;rw[tD];have:(l|||W).testBit b=true:=a;rw[Nat.testBit_or] at this;simpa using this
theorem GS (a:jM (Cp W l) b=true):jM W b=true\/b=l:=by
 rcases GU a with a|a
 ·exact .inl a
 right;rw[tD] at a;have:(1<<<l).testBit b=true:=a;rw[Nat.shiftLeft_eq,gw,yl] at this;have:=of_decide_eq_true this;omega
theorem yE (a:jM 0 b=true):False:=by rw[tD] at a;simp at a
def vD (a:c0):cY->Nat
 |[]=>0
 |p::b=>Nat.lor (Cp ((i9.ao a p).getD 0) p) (vD a b)
theorem Gq {e:c0}:∀{d:cY} {b:Nat},jM (vD e d) b=true->∃p∈d,b=p\/∃c,i9.ao e p=some c/\jM c b=true
 |[],_,a=>(yE a).elim
 |p::d,b,a=>by
  rcases GU a with a|a
  ·refine⟨p,ab,?_⟩;rcases GS a with a|a
   ·cases f:i9.ao e p with
    |none=>rw[f] at a;exact(yE a).elim
    |some c=>rw[f] at a;exact .inr ⟨c,rfl,a⟩
   exact .inl a
  obtain⟨i,h,g⟩:=Gq a;exact⟨i,by simp[h],g⟩
def yK (c:Nat):Nat->List kc->c0->List kc->Bool
 |_,_,_,[]=>true
 |ev,d,b,a::f=>
  a.ps.all (λg=>jM ev g)&&(d.all λe=>jM (vD b a.ps) e.i||CL e a)&&!(jM ev a.i)&&Nat.blt a.i c&&yK c (Cp ev a.i) (a::d) ((a.i,vD b a.ps)::b) f
def jt (a:List kc):cY:=a.map (·.i)
def rN (F:Array Oper) (gT gj:Nat->cY) (a:List kc):Bool:=a.all (oi F gT gj)&&yK F.size 0 [] [] a&&((List.range F.size).all λb=>db b (jt a))&&Nat.ble a.length F.size
def yb (F:Array Oper) (a:Nat->Prop):Prop:=∀b,a b->∀c∈oc F b,a c
theorem oi.ps {b:kc} (a:oi F gT gj b=true):oc F b.i=b.ps:=by
 unfold oi at a;split at a
 case h_2=>cases a
 simp only[bd] at a;exact n0 a.1.1.2
theorem CF:∀{t m:List kc} {o:Nat} {v:c0},yK F.size o m v t=true->(∀r∈t,oi F gT gj r=true)->(∀r∈m,oi F gT gj r=true)->(∀l,jM o l=true->l∈jt m)->(∀l∈jt m,jM o l=true)->(∀e u,i9.ao v e=some u->∀c,yb F c->c e->∀b,jM u b=true->c b)->∀g h p,jt t=g++h::p->(∀e∈oc F h,e∈jt m\/e∈g)/\(∀c,yb F c->(∀e∈oc F h,c e)->∀b,(b∈jt m\/b∈g)->¬c b->rQ F gT gj b h=true)/\h∉jt m/\h∉g/\h<F.size
 |[],_,_,_,w,_,_,_,_,A,g,h,p,n=>by cases g<;>cases n
 |r::t,m,o,v,w,E,G,d,C,A,g,h,p,n=>by
  simp only[yK,bd,eI,vi] at w;obtain⟨⟨⟨⟨P,Q⟩,q⟩,R⟩,S⟩:=w;have z:=E r ab;have y:=oi.ps z;have q:r.i∉jt m:=λk=>(by rw[C _ k] at q;cases q);have H:∀c,yb F c->(∀e∈oc F r.i,c e)->∀b,jM (vD v r.ps) b=true->c b:=by
   intro c j f b a;obtain⟨e,D,rfl|⟨U,T,a⟩⟩:=Gq a
   ·exact f _ (y▸D)
   exact A e U T c j (f e (y▸D)) b a
  cases g with
  |nil=>
   cases n;refine⟨λe f=>.inl (d _ (P e (y▸f))),λc j f b a x=>?_,q,ab,eM R⟩;rcases a with a|a
   ·obtain⟨J,I,rfl⟩:=bR.1 a;have:=Q J I;rcases fZ _ _▸this with d|d
    ·exact absurd (H c j f _ d) x
    exact Sy (G J I) z d
   cases a
  |cons V g=>
   simp only[jt,ep,jd,fK] at n;obtain⟨rfl,n⟩:=n;obtain⟨L,M,B,N,O⟩:=CF S (λb a=>E b (by simp[a])) (λb a=>by
    rcases dh.1 a with rfl|a
    ·exact z
    ·exact G b a) (λl k=>by
    rcases GS k with k|rfl
    ·exact e2 _ (d l k)
    ·exact jI ..) (λl k=>by
    rw[tD];show(o|||(1<<<r.i)).testBit l=true;rw[Nat.testBit_or,fZ];rcases dh.1 k with rfl|k
    ·right;rw[Nat.shiftLeft_eq,gw,yl];simp
    ·left;exact tD.1 (C l k)) (λe u s c j f b a=>by
    rw[bU] at s;split at s
    ·rename_i K;cases s;subst K;exact H c j (j _ f) b a
    exact A e u s c j f b a) g h p n
   refine⟨λe f=>?_,λc j f b a x=>M c j f b ?_ x,λd=>B (e2 _ d),λd=>?_,O⟩
   ·rcases L e f with d|d
    ·rcases dh.1 d with rfl|d
     ·exact .inr ab
     exact .inl d
    exact .inr (by simp[d])
   ·rcases a with a|a
    ·exact .inl (e2 _ a)
    rcases dh.1 a with rfl|a
    ·exact .inl (jI ..)
    exact .inr a
   rcases dh.1 d with rfl|d
   ·exact B (jI ..)
   exact N d
variable {E:dW} {C:dn}
theorem gQ.wp (k:ic.ac E C) (e:gQ ic F gT gj b i p) {c:Act} (j:e3 C i c.tmps v) {next:Act->World->Prop} (l:∀a d,a.defers=c.defers->e3 C (p.app i) a.tmps d->next a d):wpOp E.P F o b next c v:=by
 obtain⟨z,s,e⟩:=e;obtain⟨m,w,n,f⟩:=id j;unfold wpOp;simp only[s];rcases e with⟨h,q,_⟩|⟨h,x,g,u,rfl⟩
 ·rw[h.ok f,if_pos rfl];refine .inl (HA k q c v j _ _ ?_);rintro A a d ⟨y,r,rfl⟩ g t;cases r;exact l a d g t
 rw[h.ok f,if_neg ab,g];exact l _ v rfl ⟨m,w,n,f.put (fx.ok k u) (.bP undef)⟩
def left (a:cY) (c:Array Bool):cY:=a.filter λb=>!c.getD b true
theorem IL {d:Array Bool} {e:cY} (f:left g d=D++b::e) (h:b∉D) (i:b∉e) (j:b<d.size):left g (d.setIfInBounds b true)=D++e:=by
 have:left g (d.setIfInBounds b true)=(left g d).filter λc=>!(c==b):=by
  unfold left;rw[List.filter_filter];refine vt λc _=>?_;by_cases a:b=c
  ·subst a;have:(d.setIfInBounds b true).getD b true=true:=(by simp[Array.getD,j]);rw[this];simp
  rw[getD_set_ne true a];have:(c==b)=false:=(by simp;omega);rw[this];simp
 rw[this,f,lw,tk ab];congr 1
 ·exact l0.2 λc a=>by simp;rintro rfl;exact h a
 exact l0.2 λc a=>by simp;rintro rfl;exact i a
theorem ES (f:F[b]?=some h):l∈oc F b↔∃a∈h.after,Region.binds .any a=true/\a.on=l:=by
 unfold oc;rw[f];simp only[bR,gr,Array.mem_toList_iff];constructor
 ·rintro⟨a,⟨c,d⟩,e⟩;exact⟨a,c,d,e⟩
 rintro⟨a,c,d,e⟩;exact⟨a,⟨c,d⟩,e⟩
theorem RC (fs:ic.ac E C) {Z:List kc} (em:g=jt Z) (B:rN F gT gj Z=true) {t:aJ} {ds:List Deferred} (av:∀e j,e.defers=ds->e3 C t e.tmps j->o .normal e j):∀(y:Nat) (a:Array Bool) (e:Act) (j:World) (K:aJ),a.size=F.size->(left g a).length<=y->yb F (λd=>a.getD d true=true/\d<F.size)->l5 ic F gT gj (left g a) K t->e3 C K e.tmps j->e.defers=ds->wpAny E.P .any F o y a e j:=by
 unfold rN at B;simp only[bd,eI,gN] at B;obtain⟨⟨⟨f0,B⟩,a0⟩,_⟩:=B;have L:=CF B f0 ab (λd a4=>(yE a4).elim) (by simp[jt]) (λQ f8 b=>by cases b);rw[<-em] at L a0;have Y:∀i,i<F.size->i∈g:=λi G=>ek.1 (a0 i G);have d7:∀{a:Array Bool} {d:Nat},a.size=F.size->d<F.size->a.getD d true=true->a.getD d false=true:=(by intro a d f a4 b;have:d<a.size:=U;simpa[Array.getD,this] using b);have cs:∀{a:Array Bool} {i:Nat},a.size=F.size->i∈Region.ready .any F a->i<F.size/\a.getD i true=false/\∃h,F[i]?=some h/\∀c∈h.after,Region.binds .any c=true->a.getD c.on false=true:=(by intro a i f G;obtain⟨u,h,l,n⟩:=mem_ready.1 G;exact⟨(lW.1 l).1,u,h,l,n⟩);have first:∀{a:Array Bool} {i:Nat} {S:cY},a.size=F.size->left g a=i::S->i∈Region.ready .any F a:=by
  intro a i S f H;have J:i∈left g a:=(by rw[H];simp);have fp:i∈g:=(gr.1 J).1;have f2:a.getD i true=false:=(by simpa using(gr.1 J).2);obtain⟨k,s,p⟩:=vr fp;obtain⟨d4,_,_,z,d6⟩:=L k i s p;obtain⟨h,l⟩:∃h,F[i]?=some h:=⟨_,vg d6⟩;refine mem_ready.2 ⟨f2,h,l,λc q D=>?_⟩;have w:c.on∈oc F i:=(ES l).2 ⟨c,q,D,rfl⟩;have an:c.on∈k:=by
   rcases d4 _ w with b|b
   ·cases b
   exact b
  have fT:∀m∈k,a.getD m true=true:=by
   intro m x;cases f3:a.getD m true with
   |true=>rfl
   |false=>
    obtain⟨R,dl,ap⟩:=vr x;have:left g a=left R a++m::(left dl a++left (i::s) a):=(by show List.filter _ g=_;rw[p,ap];simp only[left,lw,jH,f3,kA,jd];rfl);rw[H] at this;cases T:left R a with
    |nil=>rw[T] at this;cases this;exact absurd x z
    |cons f9 f6=>
     rw[T] at this;cases this;have:i∈left R a:=(by rw[T];simp);exact absurd (by rw[ap];exact mO _ (gr.1 this).1) z
  have I:c.on<F.size:=(by have:c.on∈g:=(by rw[p];exact mO _ an);obtain⟨cv,d0,d8⟩:=vr this;exact(L cv c.on d0 d8).2.2.2.2);exact d7 f I (fT _ an)
 intro y
 induction y with
 |zero=>
  intro a e j K f W V r M N;have ce:left g a=[]:=Cg.1 U;rw[ce] at r;refine⟨?_,av e j N (M.seq r)⟩;cases X:Region.ready .any F a with
  |nil=>rfl
  |cons i f6=>
   obtain⟨u,n,_⟩:=cs f (i:=i) (by rw[X];simp);have:i∈left g a:=gr.2 ⟨Y i u,by rw[n];rfl⟩;rw[ce] at this;cases this
 |succ y f5=>
  intro a e j K f W V r M N;constructor
  ·intro X;cases H:left g a with
   |nil=>rw[H] at r;exact av e j N (M.seq r)
   |cons i S=>
    have:=first f H
    rw[X] at this;cases this
  intro i G;obtain⟨u,n,h,l,am⟩:=cs f G;have J:i∈left g a:=gr.2 ⟨Y i u,by rw[n];rfl⟩;obtain⟨k,s,p⟩:=vr (Y i u);obtain⟨_,d5,_,z,_⟩:=L k i s p;have a3:i∉s:=(by intro J;obtain⟨d1,d2,el⟩:=vr J;have:=(L (k++i::d1) i d2 (by rw[p,el];simp)).2.2.2.1;exact this ab);have O:left g a=left k a++i::left s a:=(by show List.filter _ g=_;rw[p];simp only[left,lw,jH,n];rfl);have ex:∀m∈left k a,rQ F gT gj m i=true:=by
   intro m x;obtain⟨f4,co⟩:=gr.1 x;refine d5 _ V (λQ w=>?_) m (.inr f4) (λx=>by rw[x.1] at co;cases co);obtain⟨c,q,D,rfl⟩:=(ES l).1 w;have A:=am c q D;have I:c.on<a.size:=by
    cases bp c.on a.size with
    |inl b=>exact b
    |inr b=>simp[Array.getD,Nat.not_lt.2 b] at A
   refine⟨?_,U⟩;simpa[Array.getD,I] using A
  rw[O] at r;obtain⟨c,q,f1⟩:=l5.front ex r;refine q.wp fs M (λd3 f7 fn eq=>f5 _ d3 f7 (c.app K) (by simp[f]) ?_ ?_ ?_ eq (fn.trans N))
  ·rw[IL O (λb=>z (gr.1 b).1) (λb=>a3 (gr.1 b).1) U];rw[O] at W;simp at W|-;omega
  ·intro d ⟨bl,ft⟩ Q w;by_cases bs:i=d
   ·subst bs;obtain⟨c,q,D,rfl⟩:=(ES l).1 w;have A:=am c q D;have I:c.on<a.size:=by
     cases bp c.on a.size with
     |inl b=>exact b
     |inr b=>simp[Array.getD,Nat.not_lt.2 b] at A
    have v:=getD_set_true (i:=i) A;refine⟨?_,U⟩;have fz:c.on<(a.setIfInBounds i true).size:=(by simpa using I);have aj:∀ad,(a.setIfInBounds i true).getD c.on ad=(a.setIfInBounds i true)[c.on]:=λad=>(by simp only[Array.getD,fz,dif_pos];rfl);rw[aj] at v|-;exact v
   rw[getD_set_ne true bs] at bl;obtain⟨v,d9⟩:=V d ⟨bl,ft⟩ Q w;refine⟨?_,d9⟩;by_cases ci:i=Q
   ·subst ci;rw[n] at v;cases v
   rw[getD_set_ne true ci];exact v
  rw[IL O (λb=>z (gr.1 b).1) (λb=>a3 (gr.1 b).1) U];exact f1
theorem J.draw (H:E.P.follows .mixedOrders=true) (z:ic.ac E C) {g:aJ->Option a} {j:a} {id:Nat} {c:List kc} (b:rN F gT gj c=true) (e:qG ic F gT gj (jt c) i g=some j) (u:∀k,g k=some j->B .normal k):J E C (.region id F true) i B:=by
 obtain⟨d,q,r⟩:=wZ e;intro o N f w;refine wp_region_any H ?_;have h:left (jt c) (Array.replicate F.size false)=jt c:=(by refine l0.2 λK y=>?_;unfold rN at b;simp only[bd,eI] at b;obtain⟨l,m,s⟩:=vr y;have:=(CF b.1.1.2 b.1.1.1 ab (λL A=>(yE A).elim) (by simp[jt]) (λQ R e=>by cases e) l K m s).2.2.2.2;simp[Array.getD,this]);have I:(jt c).length<=F.size:=(by unfold rN at b;simp only[bd] at b;rw[jt,fL];exact eM b.2);refine RC z rfl b (t:=d) (ds:=[]) (λO S x v=>⟨d,u d r,v,x⟩) F.size _ o _ i ab (by rw[h];exact I) ?_ (by rw[h];exact q) ?_ w
 ·intro L ⟨D,G⟩;simp[Array.getD,G] at D
 obtain⟨n,M,p,f⟩:=f;exact⟨n,M,p,f.T7 (gq.refl N).drew⟩
end
end
section
inductive FQ where
 |none
 |x (l:cY) (xY:l6)
 |bk (l:cY) (xY:l6)
inductive FSq where
 |r
 |x (id:Nat) (xY:l6)
 |bk (id:Nat) (xY:l6)
inductive kX where
 |leaf
 |one (a:kX)
 |two (j:FQ) (a b:kX)
 |loop (xY:l6) (m:FSq) (a:kX)
 |keep (l:cY) (a:kX)
 |m6 (F:cY) (a:kX)
 |draw (L:List kc)
def AM:List kc->Nat->cY
 |[],_=>[]
 |r::b,a=>bif Nat.beq r.i a then r.gT else AM b a
def A9:List kc->Nat->cY
 |[],_=>[]
 |r::b,a=>bif Nat.beq r.i a then r.gj else A9 b a
def G1 {A:Type} (id:Nat) (b:Exit->aJ->Option A):Exit->aJ->Option A
 |.exit c,a=>match Nat.beq c id with
  |true=>b .normal a
  |false=>b (.exit c) a
 |e,a=>b e a
def Uy {a:Type} (c:aJ->Option a):Exit->aJ->Option a
 |.normal,b=>c b
 |_,_=>none
def Uz {b A:Type} (d:aJ->Option b) (c:Exit->aJ->Option A):Exit->aJ->Option (b⊕A)
 |.normal,a=>(d a).map .inl
 |e,a=>(c e a).map .inr
def xU {A:Type} (c:aJ->Option A) (b:Exit->aJ->Option A):Exit->aJ->Option A
 |.normal,a=>c a
 |e,a=>b e a
def U9 {b A:Type} (d:aJ->Option b) (c:Exit->aJ->Option A):Exit->aJ->Option (b⊕A)
 |.normal,a=>(d a).map .inl
 |e,a=>(c e a).map .inr
def IU {b c:Type} (e:aJ->Option b) (id:Nat) (f:aJ->Option c):Exit->aJ->Option (b⊕c)
 |.normal,a=>(e a).map .inl
 |.exit d,a=>match Nat.beq d id with
  |true=>(f a).map .inr
  |false=>none
 |_,_=>none
def IV {f g A:Type} (h:aJ->Option f) (id:Nat) (i:aJ->Option g) (c:Exit->aJ->Option A):Exit->aJ->Option (f⊕(g⊕A))
 |.normal,a=>(h a).map .inl
 |.exit d,a=>match Nat.beq d id with
  |true=>(i a).map λb=>.inr (.inl b)
  |false=>(c (.exit d) a).map λb=>.inr (.inr b)
 |e,a=>(c e a).map λb=>.inr (.inr b)
def gC:fq->kX->Code->aJ->(A:Type)->(Exit->aJ->Option A)->Option A
 |ic,.leaf,e,b,_,a=>match e with
  |.skip=>a .normal b
  |.exit id=>a (.exit id) b
  |.ret=>a .ret b
  |.region _ o false=>jr ic o (List.range o.size) b (a .normal)
  |_=>none
 |ic,.one d,e,b,A,a=>match e with
  |.block id i=>gC ic d i b A (G1 id a)
  |_=>none
 |ic,.two u d q,e,b,A,a=>match e with
  |.seq i p=>match u with
   |.none=>gC ic d i b A (xU (λl=>gC ic q p l A a) a)
   |.x j c=>match qH b.g j with
    |some f=>(gC {ic with pin:=j++ic.pin,kg:=f++ic.kg} d i b c.den (Uy (proj c))).bind λk=>gC ic q p (se {ic with pin:=j++ic.pin,kg:=f++ic.kg} c k) A a
    |none=>none
   |.bk j c=>match qH b.g j with
    |some f=>(gC {ic with pin:=j++ic.pin,kg:=f++ic.kg} d i b (c.den⊕A) (Uz (proj c) a)).bind λ
     |.inl k=>gC ic q p (se {ic with pin:=j++ic.pin,kg:=f++ic.kg} c k) A a
     |.inr f=>some f
    |none=>none
  |.cond w i p=>match aO b.g w with
   |.val .bool y=>match y with
    |true=>gC ic d i b A a
    |false=>gC ic q p b A a
   |_=>none
  |_=>none
 |ic,.loop c v d,e,b,A,a=>match e with
  |.loop i=>(proj c b).bind λs=>match v with
   |.r=>(loop (λl=>gC ic d i (se ic c l) (c.den⊕A) (U9 (proj c) a)) s).bind some
   |.x id m=>(loop (λl=>gC ic d i (se ic c l) (c.den⊕m.den) (IU (proj c) id (proj m))) s).bind λk=>a (.exit id) (se ic m k)
   |.bk id m=>(loop (λl=>gC ic d i (se ic c l) (c.den⊕(m.den⊕A)) (IV (proj c) id (proj m) a)) s).bind λ
    |.inl k=>a (.exit id) (se ic m k)
    |.inr f=>some f
  |_=>none
 |ic,.draw n,e,b,_,a=>match e with
  |.region _ o true=>bif rN o (AM n) (A9 n) n then qG ic o (AM n) (A9 n) (jt n) b (a .normal) else none
  |_=>none
 |ic,.m6 t d,e,b,A,a=>bif lI b.h t then gC ic d e (qD t b) A a else none
 |ic,.keep j d,e,b,A,a=>match qH b.g j with
  |some f=>gC {ic with pin:=j++ic.pin,kg:=f++ic.kg} d e b A a
  |none=>none
section
variable {E:dW} {C:dn} {ic:fq} {A:Type}
theorem J.post {l:List (Nat×al)} (t:nC C l) {e:Code} (n:J E C e i (λf c=>B f c\/∃(d a:aJ),B f d/\d=⟨l++a.g,a.h⟩/\mW a.g c/\mX a.h c/\kN a.g a.h=true)):J E C e i B:=
 λm u r s=>wp_mono (n m u r s) (λ_ _ _ ⟨c,b,j,k⟩=>by
  rcases b with b|⟨d,a,b,rfl,o,p,q⟩
  ·exact⟨c,b,j,k⟩
  exact⟨_,b,(j.vM o p q).kg t,k⟩)
theorem kM:∀{U:kX} {C:dn} {ic:fq} {n:Code} {k:aJ} {A:Type} {l:Exit->aJ->Option A} {r:A} {m:Exit->aJ->Prop},ic.ac E C->gC ic U n k A l=some r->(∀e i,l e i=some r->m e i)->J E C n k m
 |.leaf,C,ic,n,k,A,l,r,m,b,a,d=>by
  simp only[gC] at a;split at a
  ·exact J.skip (d _ _ a)
  ·exact J.exit (d _ _ a)
  ·exact J.ret (d _ _ a)
  ·exact J.region (Ul b (λi c=>d _ i c) a)
  cases a
 |.one F,C,ic,n,k,A,l,r,m,b,a,d=>by
  simp only[gC] at a;split at a
  ·refine J.block (kM b a ?_);intro e i c;cases e with
   |exit K=>
    simp only[G1] at c;simp only[CB];split at c
    ·rename_i q;rw[q];exact d _ _ c
    rename_i q;rw[q];exact d _ _ c
   |_=>exact d _ _ c
  cases a
 |.two K F a0,C,ic,n,k,A,l,r,m,b,a,d=>by
  simp only[gC] at a;split at a
  ·rename_i x ap;refine J.seq ?_;split at a
   ·refine kM b a ?_;intro e i c;cases e with
    |normal=>exact kM b c d
    |_=>exact d _ _ c
   ·rename_i B D;split at a
    case h_2=>cases a
    rename_i O I;obtain⟨j,z,a⟩:=bZ.1 a;refine J.keep b.2.2.2.2 I (λP t u o v w=>J.post o (kM (ic:={ic with pin:=B++ic.pin,kg:=O++ic.kg}) ⟨b.1,b.2.1.trans t.symm,by rw[u,<-b.2.2.1],⟨b.2.2.2.1.1,v _ b.2.2.2.1.2.1,b.2.2.2.1.2.2.1,w b.2.2.2.1.2.2.2.1,b.2.2.2.1.2.2.2.2⟩,o⟩ z ?_));intro e i c;cases e with
    |normal=>exact .inr ⟨_,_,kM b a d,rfl,q4 c⟩
    |_=>cases c
   rename_i B D;split at a
   case h_2=>cases a
   rename_i O I;obtain⟨j,z,a⟩:=bZ.1 a;refine J.keep b.2.2.2.2 I (λP t u o v w=>J.post o (kM (ic:={ic with pin:=B++ic.pin,kg:=O++ic.kg}) ⟨b.1,b.2.1.trans t.symm,by rw[u,<-b.2.2.1],⟨b.2.2.2.1.1,v _ b.2.2.2.1.2.1,b.2.2.2.1.2.2.1,w b.2.2.2.1.2.2.2.1,b.2.2.2.1.2.2.2.2⟩,o⟩ z ?_));intro e i c;cases e with
   |normal=>
    obtain⟨ad,g,f⟩:=dZ.1 c;cases f;exact .inr ⟨_,_,kM b a d,rfl,q4 g⟩
   |_=>
    obtain⟨ad,g,f⟩:=dZ.1 c;cases f;cases a;exact .inl (d _ _ g)
  ·rename_i bs x ap;split at a
   ·rename_i ce X;refine J.cond X (λe=>?_) (λe=>?_)
    ·subst e;exact kM b a d
    subst e;exact kM b a d
   cases a
  cases a
 |.loop D Y F,C,ic,n,k,A,l,r,m,b,a,d=>by
  simp only[gC] at a;split at a
  case h_2=>cases a
  rename_i x;obtain⟨bl,V,a⟩:=bZ.1 a;obtain⟨L,M,N⟩:=q4 V;refine J.post b.2.2.2.2 ?_;cases Y with
  |r=>
   refine J.loop (jm D) a L M N ?_;intro i Q y s;refine J.kg b.2.2.2.2 (kM b y ?_);intro e R c;cases e with
   |normal=>
    obtain⟨j,g,f⟩:=dZ.1 c;cases f;exact⟨rfl,q4 g⟩
   |_=>
    obtain⟨j,g,f⟩:=dZ.1 c;cases f;cases s;exact⟨(λa=>by cases a),.inl (d _ _ g)⟩
  |x id an=>
   refine J.loop (jm D) a L M N ?_;intro i Q y s;refine J.kg b.2.2.2.2 (kM b y ?_);intro e R c;cases e with
   |normal=>
    obtain⟨j,g,f⟩:=dZ.1 c;cases f;exact⟨rfl,q4 g⟩
   |exit K=>
    simp only[IU] at c;split at c
    ·rename_i q;obtain rfl:=er q;obtain⟨j,g,f⟩:=dZ.1 c;cases f;exact⟨(λa=>by cases a),.inr ⟨_,_,d _ _ s,rfl,q4 g⟩⟩
    cases c
   |_=>cases c
  |bk id an=>
   refine J.loop (jm D) a L M N ?_;intro i Q y s;refine J.kg b.2.2.2.2 (kM b y ?_);intro e R c;cases e with
   |normal=>
    obtain⟨j,g,f⟩:=dZ.1 c;cases f;exact⟨rfl,q4 g⟩
   |exit K=>
    simp only[IV] at c;split at c
    ·rename_i q;obtain rfl:=er q;obtain⟨j,g,f⟩:=dZ.1 c;cases f;exact⟨(λa=>by cases a),.inr ⟨_,_,d _ _ s,rfl,q4 g⟩⟩
    obtain⟨j,g,f⟩:=dZ.1 c;cases f;cases s;exact⟨(λa=>by cases a),.inl (d _ _ g)⟩
   |_=>
    obtain⟨j,g,f⟩:=dZ.1 c;cases f;cases s;exact⟨(λa=>by cases a),.inl (d _ _ g)⟩
 |.draw G,C,ic,n,k,A,l,r,m,b,a,d=>by
  simp only[gC] at a;split at a
  case h_2=>cases a
  rename_i id Z;cases p:rN Z (AM G) (A9 G) G with
  |false=>rw[p] at a;cases a
  |true=>
  rw[p] at a;exact J.draw E.mix b p a (λi c=>d _ i c)
 |.m6 S F,C,ic,n,k,A,l,r,m,b,a,d=>by
  simp only[gC] at a;cases p:lI k.h S with
  |false=>rw[p] at a;cases a
  |true=>
  rw[p] at a;intro T am H W;obtain⟨av,a4,a3,H⟩:=H;exact kM b a d T am (H.freeze (lI.ok p)) W
 |.keep B F,C,ic,n,k,A,l,r,m,b,a,d=>by
  simp only[gC] at a;split at a
  case h_2=>cases a
  rename_i j z;refine J.keep b.2.2.2.2 z ?_;intro P t u o v w;exact kM (ic:={ic with pin:=B++ic.pin,kg:=j++ic.kg}) ⟨b.1,b.2.1.trans t.symm,by rw[u,<-b.2.2.1],⟨b.2.2.2.1.1,v _ b.2.2.2.1.2.1,b.2.2.2.1.2.2.1,w b.2.2.2.1.2.2.2.1,b.2.2.2.1.2.2.2.2⟩,o⟩ a d
end
end
end Go.i9
end
