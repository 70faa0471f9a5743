/-
  Parts of the proof: Fw38, Fw22, Fw23, Fw26, Fw27, Fw28, Fw34, Fw35, Fw37, Fw42, Fw45, Fw24, Fw29, Fw31, Fw32, Fw33, Fw30: the framework (Fw), pure forms (Dn), plain laws (Pl, Th), calls of functions (Ok).
-/
import Derived.Test.YtkhcdgkdpjahpaaGreatDoorB06a90871

set_option linter.all false
set_option maxHeartbeats 1000000
noncomputable section
namespace Go.ia
variable{a:Type}{b l W:Nat}{c q:TypeId}{d t:ao}{e P:List (Nat×aH)}{f A:ac7}{g:List (Nat×List aW)}{h:Oper}{i X:aO}{j:List aW}{k:List (Nat×ai)}{m w:Operand}{n x:ai}{o:Exit->Act->World->Prop}{r:Array (Nat×Operand)}{s:Program}{u:aO->Prop}{v:World}{y:Nat->ac1}{z:Nat->ac7}{B:Nat->Prop}{C:Exit->aO->Prop}{D:List (Nat×ao)}{E:ac1}{F Y:Operand->ao}{G:aH}{H:Value}{I:Bool}{L:List ao}{M:List ResultVar}{N:Op}{O:MapEntry}{Q:c5->Nat->Prop}{R:Array Operand}{S:List aH}{T:aW}{V:Array TypeId}
section
def rf:List ao->ac4->Option (Nat×List aW)
 |.ref id (c::b)::_,true::_=>some (id,c::b)
 |_::as,_::a=>rf as a
 |_,_=>none
def oE (id:Nat) (a:ao):ao:=bif a.dK [id] then .dead else a
def kK (id:Nat):List ao->ac4->List ao
 |.ref _ (_::_)::as,true::_=>.ref id []::as.map (oE id)
 |a::as,_::b=>oE id a::kK id as b
 |as,_=>as.map (oE id)
def i4 {a:Type} (c:Nat->a) (d:Nat) (e:a):Nat->a:=λb=>if b=d then e else c b
def lf {d:Nat->a} {c:a}:i4 d b c b=c:=by simp[i4]
def ju {c:Nat->a} {e:a} (d:b≠l):i4 c l e b=c b:=by simp[i4,d]
section
variable {E:dR} {C:dn} {st:aO} {A:acZ} {w w':World} {I I':Nat->Prop} {rt:Nat->ac1} {fp:Nat->ac7}
def qP {id:Nat} (a:Nat):au ((id,G)::del [id] e) a=if id=a then some G else au e a:=by
 rw[bU];split
 ·rfl
 rename_i b;rw[jT,ag (by simpa usingλc=>b c.symm)]
def br.split (e:br C st A w I rt fp) {id:Nat} {v:aH} (q:au st.h id=some v) {i:ai} {m:i.den} {r:ac1} {j K:ac7} (E:aP (ba I C.B) w i r m j) (u:(fp id).Perm (j++K)):br C ⟨[],(id,⟨i,m⟩)::del [id] st.h⟩ A w I (i4 rt id r) (i4 fp id j):=by
 obtain⟨_,H,J⟩:=e.tree id v q;have p:∀a∈j,a∈fp id:=λa b=>u.mem_iff.2 (by simp[b]);have o:∀c d,au ((id,(⟨i,m⟩:aH))::del [id] st.h) c=some d->(c=id/\d=⟨i,m⟩)\/(c≠id/\au st.h c=some d):=λc d f=>by
  rw[qP] at f;split at f
  ·rename_i n;exact .inl ⟨n.symm,(ee f).symm⟩
  rename_i n;exact .inr ⟨λx=>n x.symm,f⟩
 refine{e with tree:=?_,dis:=?_,tmp:=λc=>.dead _}
 ·intro c d f;rcases o c d f with⟨rfl,rfl⟩|⟨g,k⟩
  ·rw[lf,lf];exact⟨E,(hC.1 (u.nodup_iff.1 H)).1,λa b=>J a (p a b)⟩
  rw[ju g,ju g];exact e.tree c d k
 intro F G d L z D l a b;rcases o F d z with⟨rfl,rfl⟩|⟨g,k⟩<;>rcases o G L D with⟨rfl,rfl⟩|⟨s,t⟩
 ·exact absurd rfl l
 ·rw[lf] at b;rw[ju s];exact e.dis _ _ _ _ q t l a (p a b)
 ·rw[ju g] at b;rw[lf];exactλy=>e.dis _ _ _ _ k q l a b (p a y)
 rw[ju g] at b;rw[ju s];exact e.dis _ _ _ _ k t l a b
def bC.oE (l:br C st A w I rt fp) {id:Nat} {q:aH} {i:ac1} {j:ac7} {a:ao} {f:Value} (k:bC (ba I C.B) w st.h rt fp a f):bC (ba I C.B) w ((id,q)::del [id] st.h) (i4 rt id i) (i4 fp id j) (oE id a) f:=by
 unfold ia.oE;cases o:a.dK [id] with
 |true=>exact .dead _
 |false=>
  refine k.qX (λr g n=>⟨n,bN.refl _ _⟩) (λd m p e=>?_);have c:d≠id:=λb=>GO o d m (by simp[b]);refine⟨?_,ju c,ju c,(l.tree d p e).1,λg _=>bN.refl _ _⟩;rw[qP,ag (λb=>c b.symm)];exact e
def OZ (r:br C st A w I rt fp) {id:Nat} (F:au st.h id=some G) {y:n.den} {v:Loc} {o:ac1} {f:ac7} (D:aS w G.1 none (rt id) (T::j) n v o):∀{d:List ao} {c:ac4} {a:ac1},g2 (bC (ba I C.B) w st.h rt fp) d a->rf d c=some (id,T::j)->g2 (bC (ba I C.B) w ((id,⟨n,y⟩)::del [id] st.h) (i4 rt id o) (i4 fp id f)) (kK id d c) a:=by
 have H:∀{d:List ao} {a:ac1},g2 (bC (ba I C.B) w st.h rt fp) d a->g2 (bC (ba I C.B) w ((id,⟨n,y⟩)::del [id] st.h) (i4 rt id o) (i4 fp id f)) (d.map (ia.oE id)) a:=by
  intro d
  induction d with
  |nil=>intro a b;cases a with|nil=>trivial|cons=>exact b.elim
  |cons e m q=>intro a b;cases a with|nil=>exact b.elim|cons J a=>exact⟨b.1.oE r,q b.2⟩
 intro d
 induction d with
 |nil=>intro c a _ b;cases c<;>cases b
 |cons e m q=>
  intro c a b i;cases a with
  |nil=>exact b.elim
  |cons J a=>
  cases c with
  |nil=>cases e<;>first|(cases i;done)|(rename_i l g;cases g<;>cases i)
  |cons k c=>
   by_cases p:∃l u g,e=.ref l (u::g)/\k=true
   ·obtain⟨l,u,g,rfl,rfl⟩:=p;simp only[rf,bF,fe,fJ] at i;obtain⟨rfl,rfl,rfl⟩:=i;have z:=b.1;cases z with|ref s E=>
    rw[F] at s;cases s;obtain⟨rfl,rfl,rfl⟩:=E.ij D;refine⟨.ref (t:=⟨_,y⟩) (loc:=none) (by rw[qP,aj rfl]) ?_,H b.2⟩;rw[lf];exact aS.here
   have al:rf (e::m) (k::c)=rf m c:=by cases e<;>first|rfl|(rename_i l g;cases g<;>cases k<;>first|rfl|exact absurd ⟨_,_,_,rfl,rfl⟩ p)
   have x:kK id (e::m) (k::c)=ia.oE id e::kK id m c:=by cases e<;>first|rfl|(rename_i l g;cases g<;>cases k<;>first|rfl|exact absurd ⟨_,_,_,rfl,rfl⟩ p)
   rw[al] at i;rw[x];exact⟨b.1.oE r,q b.2 i⟩
def lA.Ws (M:br C st A w I rt fp) {id:Nat} (v:au st.h id=some G) {z:n.den} (f3:c4 G.1 G.2 j n z) {co:Loc} {P:ac1} (d3:aS w G.1 none (rt id) j n co P):∃r x,aP (ba I C.B) w n P z r/\(fp id).Perm (r++x)/\∀{w':World} {I':Nat->Prop} {s:ac7} {O:List (Nat×List aW)} {H:List (Nat×aH)} {W:Nat->ac1} {J:Nat->ac7} {X:n.den} {u:G.1.den},lA C ⟨[],(id,⟨n,z⟩)::del [id] st.h⟩ w w' I I' (i4 rt id P) (i4 fp id r) s O H W J->id∈s->au H id=some ⟨n,X⟩->(id,[])∈O->(∀g∈O,g.2=[])->dA G.1 G.2 j n X u->∃el eq,lA C st w w' I I' rt fp s ((id,j)::O) ((id,⟨G.1,u⟩)::H) el eq/\∀k,k≠id->el k=W k:=by
 obtain⟨gs,d9,ek⟩:=M.tree id G v;obtain⟨is,hv,r,x,ex,fn,fs,L,ft,fz,fT⟩:=xj j (loc:=none) gs (λ_ _ b=>by cases b) d9 (λ_ _ b=>by cases b) (M.notM v) f3;obtain⟨_,rfl,rfl⟩:=d3.ij ex;refine⟨r,x,fn,L,λ{w' I' s O H W J X u} l d0 V o am d6=>?_⟩;have gc:∀a∈r,a∈fp id:=λa c=>L.mem_iff.2 (by simp[c]);have d4:=hC.1 (L.nodup_iff.1 d9);have Q:∀a,(∃d∈s,∃e,au ((id,(⟨n,z⟩:aH))::del [id] st.h) d=some e/\a∈i4 fp id r d)->∃d∈s,∃e,au st.h d=some e/\a∈fp d/\(d=id->a∈r):=by
  rintro a ⟨d,m,e,f,c⟩;by_cases g:d=id
  ·subst g;rw[lf] at c;exact⟨d,m,G,v,gc a c,λ_=>c⟩
  rw[qP,ag (λK=>g K.symm)] at f;rw[ju g] at c;exact⟨d,m,e,f,c,λK=>absurd K g⟩
 have E:∀a∈x,a<w.heap.size/\¬∃d∈s,∃e,au ((id,(⟨n,z⟩:aH))::del [id] st.h) d=some e/\a∈i4 fp id r d:=λa c=>by
  have N:a∈fp id:=L.mem_iff.2 (by simp[c]);refine⟨(ek a N).2.2.1,λb=>?_⟩;obtain⟨d,_,e,f,p,D⟩:=Q a b;by_cases g:d=id
  ·exact d4.2.2 a (D g) a c rfl
  exact M.dis d id e G f v g a p N
 have ad:∀a∈x,w'.heap[a]?=w.heap[a]?:=λa c=>l.heap a (E a c).1 (λd m e f b=>(E a c).2 ⟨d,m,e,f,b⟩);have f0:∀F a,ba I C.B F a->bN w w' a:=λF a T=>.of_heap (l.heap a (M.ib a (lM T)) (λd m e f b=>by
  obtain⟨d,_,e,f,p,_⟩:=Q a ⟨d,m,e,f,b⟩;exact M.notM f a p F T))
 obtain⟨_,a4,gl,go⟩:=l.tree id _ V;obtain⟨y,ii,_,d7,_⟩:=l.keep _ o ⟨n,z⟩ (by rw[qP,aj rfl]);simp only[lf] at d7;rw[d7] at a4;have cv:∀a,bN w w' a->pX w w' co n.size a:=λa b=>⟨λq _=>(b.1 q).1,λq=>(b.1 q).2,λq=>by rw[(b.1 q).1],b.2⟩;obtain⟨hw,dl,ge,_,gi,_,a0,_,gf⟩:=fz w' (ba I' C.B) P X (J id) u (λF a c=>by cases F;exact l.i a c;exact c.imp (l.i a) (λb=>b)) (by
   rintro a (⟨F,T⟩|c|⟨a3,f8⟩)
   ·exact cv a (f0 F a T)
   ·exact cv a (.of_heap (ad a c))
   cases f8) a4 (λ_ _=>rfl)
  (λa a3 d2=>by
   have c:a∈x:=by
    rcases ft a a3 d2 with⟨_,b,_⟩|b
    ·cases b
    exact b
   exact(fs a a3 d2).1.et (.of_heap (ad a c))) d6
 obtain rfl:=gi rfl (.inr rfl);have Z:∀a∈dl,a∈J id\/a∈x:=λa c=>dX.1 (a0.mem_iff.1 c);have av:∀k e,au H k=some e->∀a∈J k,a∉x:=λk e o a c d5=>by
  rcases((l.tree k e o).2.2.2 a c).2.2 with b|b
  ·exact absurd (E a d5).1 U
  exact(E a d5).2 b
 have ap:∀k y,au ((id,(⟨G.1,u⟩:aH))::H) k=some y->(k=id/\y=⟨G.1,u⟩)\/(k≠id/\au H k=some y):=λk y o=>by
  rw[bU] at o;split at o
  ·rename_i g;exact .inl ⟨g.symm,(ee o).symm⟩
  rename_i g;exact .inr ⟨λK=>g K.symm,o⟩
 have an:∀a,(w.heap.size<=a\/∃d∈s,∃e,au ((id,(⟨n,z⟩:aH))::del [id] st.h) d=some e/\a∈i4 fp id r d)->w.heap.size<=a\/∃d∈s,∃e,au st.h d=some e/\a∈fp d:=λa b=>b.imp (λb=>b) (λb=>by
  obtain⟨d,m,e,f,p,_⟩:=Q a b;exact⟨d,m,e,f,p⟩)
 refine⟨i4 W id (rt id),i4 J id dl,⟨l.size,l.os,l.tape,l.output,?_,l.evo,l.i,?_,?_,?_,?_,?_⟩,λk o=>ju o⟩
 ·intro a c f4;refine l.heap a c (λd m e f b=>?_);obtain⟨d,m,e,f,p,_⟩:=Q a ⟨d,m,e,f,b⟩;exact f4 d m e f p
 ·intro a c;exact(l.i2 a c).imp (λb=>b) (λb=>⟨b.1,an a b.2⟩)
 ·intro k y o;rcases ap k y o with⟨rfl,rfl⟩|⟨p,D⟩
  ·rw[lf,lf];refine⟨.inl d0,ge,?_,λa c=>?_⟩
   ·rw[a0.nodup_iff,hC];exact⟨gl,d4.2.1,λem f1 a c g=>av k _ V em f1 (g▸c)⟩
   rcases Z a c with c|c
   ·obtain⟨bl,bs,ce⟩:=go a c;exact⟨bl,bs,an a ce⟩
   have N:a∈fp k:=L.mem_iff.2 (by simp[c]);refine⟨λm=>?_,gM (E a c).1 l.size,.inr ⟨k,d0,G,v,N⟩⟩;rcases l.i2 a m with b|⟨_,b|b⟩
   ·exact(ek a N).1 b
   ·exact absurd (E a c).1 U
   exact(E a c).2 b
  rw[ju p,ju p];obtain⟨gt,bl,bs,ce⟩:=l.tree k y D;refine⟨gt.imp (λb=>b) (λb=>?_),bl,bs,λa c=>?_⟩
  ·have b:au ((id,(⟨n,z⟩:aH))::del [id] st.h) k=none:=b;rw[qP,ag (λg=>p g.symm)] at b;exact b
  obtain⟨v1,e0,ci⟩:=ce a c;exact⟨v1,e0,an a ci⟩
 ·intro d q hc hi m f5 S a c;rcases ap d hc m with⟨rfl,rfl⟩|⟨p,D⟩<;>rcases ap q hi f5 with⟨rfl,rfl⟩|⟨ds,Y⟩
  ·exact absurd rfl S
  ·rw[lf] at c;rw[ju ds];rcases Z a c with c|c
   ·exact l.dis d q _ _ V Y S a c
   exactλb=>av q _ Y a b c
  ·rw[ju p] at c;rw[lf];intro b;rcases Z a b with b|b
   ·exact l.dis d q _ _ D V S a c b
   exact av d _ D a c b
  rw[ju p] at c;rw[ju ds];exact l.dis d q _ _ D Y S a c
 ·intro g t e f;rcases dg.1 t with rfl|t
  ·rw[v] at f;cases f;exact⟨⟨G.1,u⟩,by rw[bU,aj rfl],rfl,lf,⟨_,d3.ty⟩,gf⟩
  by_cases al:g.1=id
  ·rw[al,v] at f;cases f;refine⟨⟨G.1,u⟩,by rw[bU,aj al.symm],rfl,by rw[al];exact lf,⟨G.1,by rw[am g t];cases G.1<;>rfl⟩,λd8 _ _ _ o=>?_⟩;rw[am g t,BI] at o;cases o
  obtain⟨v1,e0,ci,v4,hr,CS⟩:=l.keep g t e (by rw[qP,ag (λb=>al b.symm)];exact f);rw[ju al] at v4 CS;exact⟨v1,by rw[bU,ag (λb=>al b.symm)];exact e0,ci,by rw[ju al];exact v4,hr,CS⟩
 intro g t e f d8 i1 i0 io hs ic R f7 f6 d1 f9;rcases dg.1 t with rfl|t
 ·rw[v] at f;cases f;refine⟨⟨G.1,u⟩,by rw[bU,aj rfl],sf R d6 d1,λcs f2=>?_⟩;obtain⟨aw,a4⟩:=fT d8 _ _ _ _ _ R (by exact f7) d1 f6 f9 cs f2;rw[lf];exact⟨a0.mem_iff.2 (kU _ aw),.of_heap (ad cs aw)⟩
 rw[am g t,se] at R;cases R
def dk.sub {s:Oper} {r:List ao} {d W:Array _} (d2:s.op=.call {callee:=.value m,args:=d,argTypes:=W}) (eq:aR st.g m=.df l r) (ci:s.dst=some b) (co:C.ok b) (bs:∀(V:acZ) (w:World),(callFunc l V).run E.P w=.ok (.enter l V) w) {a:List fH} (bl:pW E l a S) (d8:ny 0 a=none) (ad:∀j,C.I0 j\/C.B j->j<C.w0.heap.size/\¬C.F0 j) (am:jy E C.I0 C.w0) {id:Nat} (q:au st.h id=some G) {p:List aW} {v:n.den} (O:c4 G.1 G.2 (T::p) n v) {H:ac4} (d9:rf (d.toList.map (aR st.g)++r) H=some (id,T::p)) (a3:L=kK id (d.toList.map (aR st.g)++r) H) (a0:mP ((id,⟨n,v⟩)::del [id] st.h) (eC L a) L a) (A:lF b ⟨[],(id,⟨n,v⟩)::del [id] st.h⟩ L a S=true) (ap:id∈eC L a) (an:id∈kG L a) {y':n.den} {z:G.1.den} (ds:au (im L a++hm b (g7 S) 0 S) id=some ⟨n,y'⟩) (d7:dA G.1 G.2 (T::p) n y' z) (o:u ⟨(b,s4 b S)::kill (eC L a) ((id,T::p)::uQ (kG L a)) st.g,((id,⟨G.1,z⟩)::(im L a++hm b (g7 S) 0 S))++del (eC L a) st.h⟩):dk E C s st u:=by
 rintro c w ⟨I,rt,fp,e⟩ next fT d1
 obtain⟨i,em,Z⟩:∃i:acZ,c.eval m=.func (.func l) #[] i/\g2 (bC (ba I C.B) w st.h rt fp) r i.toList:=by
  have F:=e.aR m;rw[eq] at F;generalize f3:c.eval m=f8 at F;cases F with|df dl cv=>
  exact⟨_,rfl,za (by simpa using dl) (λU c j D x=>cv U c j D (by simpa using x))⟩
 have a4:g2 (bC (ba I C.B) w st.h rt fp) (d.toList.map (aR st.g)++r) (d.toList.map c.eval++i.toList):=Do (Dp (λm=>e.aR m) _) Z;obtain⟨fn,fs,f4⟩:=e.tree id G q;obtain⟨fz,f0,_,_,J,_⟩:=Bs (T::p) (loc:=none) fn (λ_ _ o=>by cases o) fs (λ_ _ o=>by cases o) (e.notM q) O;obtain⟨Y,f5,aw,ex,d3⟩:=lA.Ws e q O J;have M:=e.split q aw ex;have N:=OZ (y:=v) (f:=Y) e q J a4 d9;rw[<-a3] at N;have ce:=M.call N bl a0 A (λ_ _=>by rw[d8];trivial) (M.glob ad am);have d6:(execOp c.eval s).run E.P w=.ok (.enter l (d.toList.map c.eval++i.toList).toArray) w:=(by have al:d.map c.eval=(d.toList.map c.eval).toArray:=(by rw[<-Array.toList_map]);have X:(d.toList.map c.eval++i.toList).toArray=(d.toList.map c.eval).toArray++i:=ab;rw[X];simp only[execOp,d2,resolve,al,Sem.run_bind,em,Deferred.ofValue,Sem.run_pure,Result.andThen_ok,invoke,Array.empty_append,Array.append_empty];exact bs _ _);unfold Oper.wp;rw[d6];show Calls E.P l _ w _;refine ce.mono ?_;rintro k w' ⟨I',f6,f1,ft,rfl,ek,d4⟩;show next (c.put s.dst (ow ft)) w'
 rw[ci];obtain⟨f7,f2,el,d5⟩:=d3 ek ap ds (bR.2 ⟨id,an,rfl⟩) (λk cs=>by obtain⟨U,_,rfl⟩:=bR.1 cs;rfl) d7;simp only[lF,bc,eJ] at A;have d0:=hO.ok A.1.2;refine d1 _ _ _ o rfl ⟨I',_,_,(e.eI el).put co (av:=s4 b S) (d4 _ _ _ (λt R=>?_))⟩;have D:=MA d0 t R;have x:=A.2 t R;have Q:t.1≠id:=λk=>(by rw[k,qP,aj rfl] at x;cases x);have K:au ((id,(⟨G.1,z⟩:aH))::(im L a++hm b (g7 S) 0 S)) t.1=some t.2:=(by rw[bU,ag (λk=>Q k.symm)];exact D);refine⟨by rw[iB,K];rfl,?_⟩;simp only[dz,K];exact d5 _ Q
end
end
section
def h3:Nat->List fH->List (Nat×ao)
 |_,[]=>[]
 |k,.v b::a=>(k,.val b.1 b.2)::h3 (k+1) a
 |k,.m _ _::a=>(k,.ref k [])::h3 (k+1) a
 |k,.o _::a=>(k,.ref k [])::h3 (k+1) a
 |k,.n::a=>(k,.bQ (.slice none 0 0))::h3 (k+1) a
 |k,.w _ _ e d _::a=>(k,.view k [] e d)::h3 (k+1) a
 |k,.s _ _::a=>h3 (k+1) a
 |k,.c f g::a=>(k,.df f (g.map λb=>.val b.1 b.2))::h3 (k+1) a
def iv:Nat->List fH->List (Nat×aH)
 |_,[]=>[]
 |k,.v _::a=>iv (k+1) a
 |k,.m b _::a=>(k,b)::iv (k+1) a
 |k,.o b::a=>(k,b)::iv (k+1) a
 |k,.w e d _ _ _::a=>(k,⟨.osl e,d⟩)::iv (k+1) a
 |k,.c _ _::a=>iv (k+1) a
 |k,.n::a=>iv (k+1) a
 |k,.s _ _::a=>iv (k+1) a
def fR:Nat->List fH->ac7
 |_,[]=>[]
 |k,.m _ _::a=>k::fR (k+1) a
 |k,.w _ _ _ _ _::a=>k::fR (k+1) a
 |k,_::a=>fR (k+1) a
def rF (a:dn):Option cR->Prop
 |none=>True
 |some (c,g,d)=>c∈a.pin/\(∀h∈d,h∈a.pin)/\∃b e f,a.vs c=.pointer (some ⟨b,e,none⟩)/\b<a.w0.heap.size/\¬a.F0 b/\a.w0.cell? ⟨b,e,none⟩=some (.func (.func g) #[] f)/\f.toList=d.map a.vs
def lS:Option cR->ac7
 |none=>[]
 |some (a,_,b)=>a::b
def p9 (j:Program) (e:aO) (a:aH):ResultVar->ac7->Prop
 |.tmp m,c=>match gt e.g m with
  |.val i n=>(⟨i,n⟩:aH)=a/\c=[]
  |.bQ f=>he a.1 f.cells.toList=some a.2/\bG a.1 f.cells.toList=f/\c=[]
  |.ref id d=>c=[id]/\∃b,au e.h id=some b/\c4 b.1 b.2 d a.1 a.2
  |_=>False
 |.cell l k,c=>dC j a.1 k/\match gt e.g l with
  |.ref id d=>c=[id]/\∃b i,au e.h id=some b/\dF b.1 d=some (.optr i)/\c4 b.1 b.2 (d++[.deref]) a.1 a.2
  |_=>False
def rD (b:Program) (d:aO):List ResultVar->List aH->ac7->Prop
 |[],[],a=>a=[]
 |r::f,e::g,a=>e.1.es=true/\∃i1 c,a=i1++c/\p9 b d e r i1/\rD b d f g c
 |_,_,_=>False
def nS (a:aO):Nat->List fH->Prop
 |_,[]=>True
 |k,.m c l::b=>(gt a.g k=.ref k []/\au a.h k=some ⟨c.1,l⟩/\c.1.es=true/\pT c.1=true)/\nS a (k+1) b
 |k,.w i j e d f::b=>(gt a.g k=.view k [] e d/\au a.h k=some ⟨.osl i,f⟩/\(i.es=true/\e<d)/\f.length=j.length)/\nS a (k+1) b
 |k,_::b=>nS a (k+1) b
def G5 (e:Program) (a:List fH) (g:List ResultVar) (f:List aH) (b:Exit) (d:aO):Prop:=
 (b=.normal\/b=.ret)/\∃c,rD e d g f c/\hO (fR 0 a++c)=true/\nS d 0 a
section
variable {E:dR}
def PI {j:Nat->Prop} {a:ac1} (g:g2 (vF j B v) S a):bC (ba j B) v e y z (.df b (S.map λd=>.val d.1 d.2)) (.func (.func b) #[] a.toArray):=by
 have l:=Hx g;refine .df (by simpa using l.symm) (λf p i c h=>?_);have k:∀{S:List aH} {a:ac1} {f:Nat} {d:aH} {i:Value},g2 (vF j B v) S a->S[f]?=some d->a[f]?=some i->vF j B v d i:=by
  intro S
  induction S with
  |nil=>intro a f d i _ c;simp at c
  |cons s S o=>
   intro a f d i g c h;cases a with
   |nil=>exact g.elim
   |cons r a=>
    cases f with
    |zero=>simp only[iI,bF] at c h;subst c h;exact g.1
    |succ f=>exact o g.2 (by simpa using c) (by simpa using h)
 rw[eT] at c;obtain⟨d,n,rfl⟩:=dY.1 c;obtain⟨q,rfl,m⟩:=k g n (by simpa using h);exact .val m
def HO {r q:Nat->Prop} {w:World}:∀{k:Nat} {d:List fH} {G:ac1} {z:acW},kz (vz r q w) d G z->∃(h:Nat->ac1) (f:Nat->ac7),(∀id b,au (iv k d) id=some b->k<=id/\(∃x,z[id-k]?=some x/\f id=x)/\aP (ba r q) w b.1 (h id) b.2 (f id))/\(∀a,gt (h3 k d) (k+a)=.dead\/∃v,G[a]?=some v/\bC (ba r q) w (iv k d) h f (gt (h3 k d) (k+a)) v)/\(∀a,a<k->gt (h3 k d) a=.dead)
 |k,[],G,z,p=>⟨λ_=>[],λ_=>[],(λid b p=>by cases p),λa=>.inl rfl,λa _=>rfl⟩
 |k,l::d,[],z,p=>p.elim
 |k,l::d,v::G,[],p=>p.elim
 |k,l::d,v::G,x::z,p=>by
  obtain⟨C,ad⟩:=p;obtain⟨h,f,i1,M,D⟩:=HO (k:=k+1) ad;have L:∀id b,au (iv (k+1) d) id=some b->k<=id/\(∃y,(x::z)[id-k]?=some y/\f id=y)/\aP (ba r q) w b.1 (h id) b.2 (f id):=λid b u=>(by obtain⟨aw,⟨y,e,R⟩,av⟩:=i1 id b u;exact⟨U,⟨y,by rw[(U:id-k=(id-(k+1))+1),oQ];exact e,R⟩,av⟩);have Q:∀(b:aH) (t:ac1) (N:ao),(∀(B:List (Nat×aH)) (F:Nat->ac1) (J:Nat->ac7),au B k=some b->F k=t->bC (ba r q) w B F J N v)->aP (ba r q) w b.1 t b.2 x->iv k (l::d)=(k,b)::iv (k+1) d->h3 k (l::d)=(k,N)::h3 (k+1) d->_:=λb t N g j al V=>by
   refine(⟨λK=>if K=k then t else h K,λK=>if K=k then x else f K,?_,?_,?_⟩:∃(h:Nat->ac1) (f:Nat->ac7),(∀id b,au (iv k (l::d)) id=some b->k<=id/\(∃y,(x::z)[id-k]?=some y/\f id=y)/\aP (ba r q) w b.1 (h id) b.2 (f id))/\(∀a,gt (h3 k (l::d)) (k+a)=.dead\/∃i,(v::G)[a]?=some i/\bC (ba r q) w (iv k (l::d)) h f (gt (h3 k (l::d)) (k+a)) i)/\(∀a,a<k->gt (h3 k (l::d)) a=.dead))
   ·intro id S u;rw[al,bU] at u;split at u
    ·rename_i O;subst O;obtain rfl:=ee u;refine⟨a6 _,⟨x,ab,ab⟩,by simp only[if_true];exact j⟩
    rename_i O;obtain⟨aw,e,R⟩:=L id S u;have I:¬id=k:=λp=>O p.symm;exact⟨aw,by simp only[ag I];exact e,by simp only[ag I];exact R⟩
   ·intro a;rw[V,hj];cases a with
    |zero=>
     right;refine⟨v,rfl,?_⟩;rw[aj U];exact g _ _ _ (by rw[al,bU,aj rfl]) (by simp only[if_true])
    |succ a=>
     rw[ag U,(U:k+(a+1)=k+1+a)];refine(M a).imp id ?_;rintro⟨i,aw,e⟩;refine⟨i,by simpa using aw,?_⟩;refine e.qX (λm H am=>⟨am,bN.refl w H⟩) (λid _ S u=>?_);obtain⟨bs,_,a0⟩:=i1 id S u;have I:¬id=k:=U;have Z:¬k=id:=U;exact⟨by rw[al,bU,ag Z];exact u,by simp only[ag I],by simp only[ag I],a0,λH _=>bN.refl w H⟩
   intro a A;rw[V,hj,ag U];exact D a U
  cases l with
  |v b=>
   obtain⟨rfl,t,g,j⟩:=C;refine⟨h,f,L,λa=>?_,λa A=>?_⟩
   ·show gt ((k,_)::_) _=_\/_;rw[hj];cases a with
    |zero=>
     right;refine⟨v,rfl,?_⟩;show bC _ _ _ _ _ (gt ((k,_)::_) _) _;rw[hj,aj U,g];exact .val j
    |succ a=>
     rw[ag U,(U:k+(a+1)=k+1+a)];refine(M a).imp id ?_;rintro⟨i,aw,e⟩;refine⟨i,by simpa using aw,?_⟩;show bC _ _ _ _ _ (gt ((k,_)::_) _) _;rw[hj,ag U];exact e
   show gt ((k,_)::_) _=_;rw[hj,ag U];exact D a U
  |n=>
   obtain⟨rfl,g⟩:=C;refine⟨h,f,L,λa=>?_,λa A=>?_⟩
   ·show gt ((k,_)::_) _=_\/_;rw[hj];cases a with
    |zero=>
     right;refine⟨v,rfl,?_⟩;show bC _ _ _ _ _ (gt ((k,_)::_) _) _;rw[hj,aj U,g];exact .bQ _
    |succ a=>
     rw[ag U,(U:k+(a+1)=k+1+a)];refine(M a).imp id ?_;rintro⟨i,aw,e⟩;refine⟨i,by simpa using aw,?_⟩;show bC _ _ _ _ _ (gt ((k,_)::_) _) _;rw[hj,ag U];exact e
   show gt ((k,_)::_) _=_;rw[hj,ag U];exact D a U
  |s a3 a4=>
   refine⟨h,f,L,λa=>?_,λa A=>D a U⟩;cases a with
   |zero=>exact .inl (D k U)
   |succ a=>
    have A:=M a;rw[(U:k+1+a=k+(a+1))] at A;refine A.imp id ?_;rintro⟨i,aw,e⟩;exact⟨i,by simpa using aw,e⟩
  |c n ce=>
   obtain⟨rfl,ci,g,j⟩:=C;refine⟨h,f,L,λa=>?_,λa A=>?_⟩
   ·show gt ((k,_)::_) _=_\/_;rw[hj];cases a with
    |zero=>
     right;refine⟨v,rfl,?_⟩;show bC _ _ _ _ _ (gt ((k,_)::_) _) _;rw[hj,aj U,g];exact PI j
    |succ a=>
     rw[ag U,(U:k+(a+1)=k+1+a)];refine(M a).imp id ?_;rintro⟨i,aw,e⟩;refine⟨i,by simpa using aw,?_⟩;show bC _ _ _ _ _ (gt ((k,_)::_) _) _;rw[hj,ag U];exact e
   show gt ((k,_)::_) _=_;rw[hj,ag U];exact D a U
  |m b co=>obtain⟨t,g,j⟩:=C;exact Q b t (.ref k []) (λB F J aw e=>by subst g;exact .ref (loc:=none) aw (by rw[e];exact aS.here)) j rfl rfl
  |o b=>obtain⟨t,g,j⟩:=C;exact Q b t (.ref k []) (λB F J aw e=>by subst g;exact .ref (loc:=none) aw (by rw[e];exact aS.here)) j rfl rfl
  |w Y X E P cs=>
   obtain⟨H,o,T,g,⟨bl,an,ap⟩,j⟩:=C;refine Q ⟨.osl Y,X⟩ _ (.view k [] E P) (λB F J aw e=>?_) j rfl rfl;have W:bC (ba r q) w B F J (.view k [] E P) (.slice (some ⟨H,if T=E then o else o+E*Y.size,none⟩) (P-E) (T-E)):=.view (loc:=none) (len:=X.length) aw (by rw[e];exact aS.here) U an ap;rw[ag U] at W;rw[g];exact W
def Tn {f:acW} (h:f.flatten.Nodup):(∀(a:Nat) b,f[a]?=some b->b.Nodup)/\∀(a c:Nat) b g,f[a]?=some b->f[c]?=some g->a≠c->∀e∈b,e∉g:=by
 induction f with
 |nil=>exact⟨λa b h=>by simp at h,λa c b g h=>by simp at h⟩
 |cons r f q=>
  simp only[ir,hC] at h;obtain⟨m,n,l⟩:=h;obtain⟨i1,p⟩:=q n;refine⟨λa b d=>?_,λa c b g d i o e j k=>?_⟩
  ·cases a with
   |zero=>simp only[iI,bF] at d;subst d;exact m
   |succ a=>exact i1 a b (by simpa using d)
  cases a with
  |zero=>
   cases c with
   |zero=>exact o rfl
   |succ c=>
    simp only[iI,bF] at d;subst d;exact l e j e (it.2 ⟨g,kt (by simpa using i),k⟩) rfl
  |succ a=>
   cases c with
   |zero=>
    simp only[iI,bF] at i;subst i;exact l e k e (it.2 ⟨b,kt (by simpa using d),j⟩) rfl
   |succ c=>exact p a c b g (by simpa using d) (by simpa using i) U e j k
def yb (b:acZ):ResultVar->Sem Value
 |.tmp a=>Pure.pure (b.getD a undef)
 |.cell c a=>do loadVar a (<-asAddr (b.getD c undef))
def XM {f:Func} (h:f.results=M.toArray) (c:acZ) (a:World) {d:ac1} (i:(M.mapM (yb c)).run s a=.ok d a):(results f c).run s a=.ok (ow d) a:=by
 unfold results;simp only[Sem.run_bind,h];rw[Array.mapM_eq_mapM_toList,Sem.run_map];have j:∀b:ResultVar->Sem Value,(∀e,b e=yb c e)->(M.mapM b).run s a=.ok d a:=λb g=>(by rw[show b=yb c from funext g];exact i);rw[j _ (λe=>by cases e<;>rfl)];simp only[Result.andThen_ok,Sem.run_pure];congr 1
 match d with
 |[]=>rfl
 |[r]=>rfl
 |r::l::k=>simp[ow]
def p9.rep {K:dn} {e:acZ} {F:Nat->Prop} {N:Nat->ac1} (t:br K i e v F N z) (I:G.1.es=true) {d:ResultVar} (a:p9 s i G d f):∃r L,(yb e d).run s v=.ok r v/\yY F v G r L/\(∃am,(f.map z).flatten.Perm (L++am))/\∀id∈f,∃G,au i.h id=some G:=by
 have M:∀(id:Nat) (g:aH) (n:List aW),au i.h id=some g->c4 g.1 g.2 n G.1 G.2->∃q k j o,aS v g.1 none (N id) n G.1 q k/\aP (ba F K.B) v G.1 k G.2 j/\nR v q k G.1.size/\(z id).Perm (j++o):=(by intro id g n c u;obtain⟨aw,J,av⟩:=t.tree id _ c;obtain⟨q,k,j,o,C,p,E,D,_⟩:=Bs n (τ':=G.1) (y:=G.2) aw (loc:=none) (λ_ _ a=>by cases a) J (λ_ _ a=>by cases a) (t.notM c) u;exact⟨q,k,j,o,C,p,E,D⟩);cases d with
 |tmp d=>
  have b:=t.tmp d;simp only[p9] at a;split at a
  ·rename_i ap a3 l;rw[l] at b;obtain⟨rfl,rfl⟩:=a;generalize m:e.getD d undef=r at b;cases b with|val an=>
   exact⟨_,[],by show(Pure.pure (e.getD d undef):Sem Value).run s v=_;rw[m];rfl,⟨_,rfl,an.es I⟩,⟨[],ab⟩,ab⟩
  ·rename_i r l;rw[l] at b;obtain⟨aw,J,rfl⟩:=a;generalize m:e.getD d undef=a0 at b;cases b;exact⟨_,[],by show(Pure.pure (e.getD d undef):Sem Value).run s v=_;rw[m];rfl,⟨_,J.symm,oa aw⟩,⟨[],ab⟩,ab⟩
  ·rename_i id n l;rw[l] at b;obtain⟨rfl,g,c,u⟩:=a;generalize m:e.getD d undef=r at b;cases b with|ref A x=>
   rw[c] at A;cases A;obtain⟨q,k,j,o,C,p,E,D⟩:=M id g n c u;obtain⟨rfl,rfl,rfl⟩:=x.ij C;refine⟨_,j,by show(Pure.pure (e.getD d undef):Sem Value).run s v=_;rw[m];rfl,⟨_,rfl,p.es I⟩,⟨o,by simpa using D⟩,λZ w=>?_⟩;rw[ed] at w;subst w;exact⟨_,c⟩
  exact a.elim
 |cell H O=>
  have b:=t.tmp H;simp only[p9] at a;obtain⟨V,a⟩:=a;split at a
  ·rename_i id n l;rw[l] at b;obtain⟨rfl,g,ap,c,Y,u⟩:=a;generalize m:e.getD H undef=r at b;cases b with|ref A x=>
   rw[c] at A;cases A;have:=x.ty;rw[Y] at this;cases this;obtain⟨P,ad,S,rfl,Q,R⟩:=np (t.tree id _ c).1 x;have X:=x.append (aS.D9 Q R);obtain⟨q,k,j,o,C,p,E,D⟩:=M id g _ c u;obtain⟨al,T,U⟩:=X.ij C;subst T;subst U;subst al;have W:=(E P ad rfl).1;refine⟨bG G.1 S,j,?_,⟨_,rfl,p.es I⟩,⟨o,by simpa using D⟩,λZ w=>?_⟩
   ·show(do loadVar O (<-asAddr (e.getD H undef)):Sem Value).run s v=_;rw[m];simp only[bG,List.headD,asAddr,Sem.run_bind,Sem.run_pure,Result.andThen_ok];exact MS V W p.len
   rw[ed] at w;subst w;exact⟨_,c⟩
  exact a.elim
def rD.rep {k:Program} {t:dn} {g:aO} {s:acZ} {f w0:World} {j:Nat->Prop} {H:Nat->ac1} {m:Nat->ac7} (n:br t g s f j H m):∀{e:List ResultVar} {p:List aH} {a:ac7},rD k g e p a->∃vs d,(e.mapM (yb s)).run k f=.ok vs f/\kz (yY j f) p vs d/\(∃F,(a.map m).flatten.Perm (d.flatten++F))/\∀id∈a,∃i,au g.h id=some i
 |[],[],a,b=>by obtain rfl:a=[]:=b;exact⟨[],[],rfl,trivial,⟨[],.refl _⟩,ab⟩
 |[],i::I,a,b=>b.elim
 |r::e,[],a,b=>b.elim
 |r::e,i::I,a,b=>by
  obtain⟨E,i1,K,rfl,C,D⟩:=b;obtain⟨J,l,u,v,⟨G,w⟩,x⟩:=C.rep n E;obtain⟨vs,d,y,z,⟨q,A⟩,B⟩:=rD.rep (w0:=w0) n D;refine⟨J::vs,l::d,?_,⟨v,z⟩,⟨G++q,?_⟩,λo c=>?_⟩
  ·simp only[List.mapM_cons,Sem.run_bind,u,Sem.run_pure,Result.andThen_ok,y]
  ·simp only[fZ,oP,ir];refine(w.append A).trans ?_;rw[kr,kr];refine List.Perm.append_left l ?_;rw[<-kr,<-kr];exact List.Perm.append_right q List.perm_append_comm
  rcases dX.1 c with c|c
  ·exact x o c
  exact B o c
def HP:∀{k:Nat} {args:List fH},∀b∈fR k args,k<=b
 |k,[],b,a=>by cases a
 |k,f::args,b,a=>by
  have d:=HP (k:=k+1) (args:=args);cases f with
  |m e q=>
   rcases dg.1 a with rfl|a
   ·exact a6 _
   have:=d b a;omega
  |w t p j h r=>
   rcases dg.1 a with rfl|a
   ·exact a6 _
   have:=d b a;omega
  |v e=>have:=d b a;omega
  |o e=>have:=d b a;omega
  |c n l=>have:=d b a;omega
  |n=>have:=d b a;omega
  |s g i=>have:=d b a;omega
def nS.rep {S:dn} {C:aO} {F:acZ} {w:World} {G:Nat->Prop} {M:Nat->ac1} {u:Nat->ac7} (x:br S C F w G M u) {B:Nat->Prop}:∀{k:Nat} {g:List fH} {vs:ac1},nS C k g->vs.length=g.length->(∀e,e∈fR k g->∀v,vs[e-k]?=some v->F.getD e undef=v)->∃d,kz (vA G B w) g vs d/\d.flatten=((fR k g).map u).flatten/\∀id∈fR k g,k<=id/\∃t,au C.h id=some t
 |k,[],vs,i,y,z=>by cases vs with
  |nil=>exact⟨[],trivial,rfl,by simp[fR]⟩
  |cons=>cases y
 |k,H::g,[],i,y,z=>by cases y
 |k,H::g,v::vs,i,y,z=>by
  have r:nS C (k+1) g->(∀e,e∈fR (k+1) g->e∈fR k (H::g))->∃d,kz (vA G B w) g vs d/\d.flatten=((fR (k+1) g).map u).flatten/\∀id∈fR (k+1) g,k+1<=id/\∃t,au C.h id=some t:=λi Y=>by
   have W:=HP (k:=k+1) (args:=g);exact nS.rep x i (by simpa using y) (λe f ap Z=>z e (Y e f) ap (by
    have:=W e f;rw[(U:e-k=(e-(k+1))+1),oQ];exact Z))
  cases H with
  |v t=>
   obtain⟨d,j,l,b⟩:=r i (λe f=>f);exact⟨[]::d,⟨rfl,j⟩,by simpa[fR] using l,λid a=>⟨by have:=(b id a).1;omega,(b id a).2⟩⟩
  |o t=>
   obtain⟨d,j,l,b⟩:=r i (λe f=>f);exact⟨[]::d,⟨rfl,j⟩,by simpa[fR] using l,λid a=>⟨by have:=(b id a).1;omega,(b id a).2⟩⟩
  |n=>
   obtain⟨d,j,l,b⟩:=r i (λe f=>f);exact⟨[]::d,⟨rfl,j⟩,by simpa[fR] using l,λid a=>⟨by have:=(b id a).1;omega,(b id a).2⟩⟩
  |s bs ci=>
   obtain⟨d,j,l,b⟩:=r i (λe f=>f);exact⟨[]::d,⟨rfl,j⟩,by simpa[fR] using l,λid a=>⟨by have:=(b id a).1;omega,(b id a).2⟩⟩
  |c n d1=>
   obtain⟨d,j,l,b⟩:=r i (λe f=>f);exact⟨[]::d,⟨rfl,j⟩,by simpa[fR] using l,λid a=>⟨by have:=(b id a).1;omega,(b id a).2⟩⟩
  |m t d2=>
   obtain⟨⟨K,q,L,ad⟩,i⟩:=i;obtain⟨d,j,l,b⟩:=r i (λe f=>e1 _ f);have p:=x.tmp k;rw[K] at p;have J:F.getD k undef=v:=z k (by simp[fR]) v ab;rw[J] at p;obtain⟨E,_⟩:=x.tree k _ q;refine⟨u k::d,⟨?_,j⟩,by simp only[fR,eo,ir,l],λid a=>?_⟩
   ·cases p with|ref A I=>
    rw[q] at A;cases A;obtain⟨rfl,rfl,rfl⟩:=aS.eQ.1 I;exact⟨M k,rfl,E.es L⟩
   rcases dg.1 a with rfl|a
   ·exact⟨a6 _,_,q⟩
   exact⟨by have:=(b id a).1;omega,(b id a).2⟩
  |w R av co ce a0=>
   obtain⟨⟨K,q,⟨L,ad⟩,am⟩,i⟩:=i;obtain⟨d,j,l,b⟩:=r i (λe f=>e1 _ f);have p:=x.tmp k;rw[K] at p;have J:F.getD k undef=v:=z k (by simp[fR]) v ab;rw[J] at p;obtain⟨E,_⟩:=x.tree k _ q;refine⟨u k::d,⟨?_,j⟩,by simp only[fR,eo,ir,l],λid a=>?_⟩
   ·cases p with
    |kn=>omega
    |view A I aw cv dl=>
    rename_i d0 d3 cs N P an O;rw[q] at A;cases A;obtain⟨al,bl,T⟩:=aS.eQ.1 I;simp only[ai.osl.injEq] at al;subst al;have D:M k=[.slice (some ⟨N,P,none⟩) an O]:=T;have X:=E;obtain⟨a3,a4,Q,ds⟩:=X;rw[Q] at D;simp only[fJ,Value.slice.injEq,and_true] at D;refine⟨N,P,O,by rw[ag U],U,?_⟩;have:=aP.es (τ:=.osl R) (B':=B) L E;rw[Q,D.1,D.2.2] at this;have V:List.length (α:=R.den) a0=av.length:=am;rw[<-V];exact this
   rcases dg.1 a with rfl|a
   ·exact⟨a6 _,_,q⟩
   exact⟨by have:=(b id a).1;omega,(b id a).2⟩
def pW.Tz {o:FuncId} {m:Func} {c:Code} {e:List fH} (d9:E.P.funcs[o]?=some m) (d:m.body=some c) (fn:m.results=M.toArray) (ge:e.length<=m.ntmps) (b:∀f:dn,f.n=m.ntmps->f.pin=fR 0 e++lS (ny 0 e)->(∀a,f.I0 a\/f.B a->a<f.w0.heap.size/\¬f.F0 a)->rF f (ny 0 e)->jy E f.I0 f.w0->J E f c ⟨h3 0 e,iv 0 e⟩ (G5 E.P e M S)):pW E o e S:=by
 intro x y G l K av am eq N a3 ek;obtain⟨fs,gc⟩:=Dq am;obtain⟨cv,Y,I,d0,f8⟩:=HO (k:=0) am
 let f:dn:={I0:=y,B:=G,F0:=λa=>a∈K.flatten,w0:=x,n:=m.ntmps,pin:=fR 0 e++lS (ny 0 e),vs:=λi=>l.getD i undef}
 have bl:∀i,(l.toArray++Array.replicate (m.ntmps-l.toArray.size) undef).getD i undef=l.getD i undef:=by
  intro i;rw[yF,iH];rcases bn i l.length with Q|Q
  ·rw[Array.getElem?_append,aj (by simpa using Q)];simp
  rw[Array.getElem?_append,ag (by simp;omega),fc Q,Array.getElem?_replicate];split<;>rfl
 obtain⟨ft,fz⟩:=Tn eq;have d4:br f ⟨h3 0 e,iv 0 e⟩ (l.toArray++Array.replicate (m.ntmps-l.toArray.size) undef) x y cv Y:=by
  refine{n:=?_,i0:=λ_ b=>b,i1:=λ_ b=>.inl b,ib:=av,tree:=?_,dis:=?_,tmp:=?_,frame:=λ_ _ _=>rfl,evo:=λ_ _=>.refl _ _,size:=a6 _,os:=rfl,tape:=rfl,output:=rfl,pin:=λi _=>bl i}
  ·simp only[Array.size_append,p6,Array.size_replicate];show _=m.ntmps;omega
  ·intro id j v;obtain⟨_,⟨o,aw,t⟩,T⟩:=I id j v;rw[Nat.sub_zero] at aw;refine⟨T,by rw[t];exact ft id o aw,λa d=>?_⟩;rw[t] at d;have q:a∈K.flatten:=it.2 ⟨o,kt aw,d⟩;obtain⟨C,U,f2⟩:=N a q;exact⟨C,U,f2,.inr q⟩
  ·intro ce s j f6 el u em a d an;obtain⟨_,⟨o,aw,t⟩,_⟩:=I ce j el;obtain⟨_,⟨d1,C,U⟩,_⟩:=I s f6 u;rw[Nat.sub_zero] at aw C;rw[t] at d;rw[U] at an;exact fz ce s o d1 aw C em a d an
  intro i;show bC _ _ _ _ _ (gt (h3 0 e) i) _;rw[bl];rcases d0 i with b|⟨w,L,z⟩
  ·rw[hE] at b;rw[b];exact .dead _
  rw[hE] at z;rw[iH,L];exact z
 have fp:rF f (ny 0 e):=by
  cases p:ny 0 e with
  |none=>trivial
  |some f0=>
   obtain⟨i,o,co⟩:=f0;rw[p] at a3;obtain⟨_,_,a,fT,f7,V,D,W,f4,f5⟩:=a3;have a0:f.pin=fR 0 e++lS (some (i,o,co)):=(by rw[<-p]);refine⟨by rw[a0];simp[lS],λs u=>by rw[a0];simp[lS,u],a,fT,f7,V,D,W,f4,f5⟩
 refine calls_of_wp d9 d (wp_mono (b f rfl rfl (λa d=>⟨av a d,λq=>d.elim (N a q).1 (N a q).2.1⟩) fp ek _ x ⟨y,cv,Y,d4⟩ rfl) ?_);rintro f9 X F ⟨ds,⟨d8,ci,ex,R,q⟩,⟨H,gi,Z,g⟩,ap⟩;obtain⟨gl,p,f3,V,⟨gf,D⟩,W⟩:=rD.rep (w0:=x) g ex;obtain⟨r,d2,ad,d3⟩:=nS.rep g (B:=G) (vs:=l) q fs (λs u w bs=>by
  rw[Nat.sub_zero] at bs;rw[g.pin s (mS _ u)];show l.getD s undef=w;rw[iH,bs];rfl)
 have R:=hO.ok R;have a4:∀id∈fR 0 e++ci,∃j,au ds.h id=some j:=λid O=>by
  rcases dX.1 O with b|b
  ·exact(d3 id b).2
  exact W id b
 have A:=Fv g a4 R;rw[fZ,oP,<-ad] at A;have A:(r.flatten++p.flatten).Nodup:=(by have:=(List.Perm.append_left r.flatten D).nodup_iff.1 A;rw[<-kr] at this;exact(hC.1 this).1);have d5:∀a∈r.flatten++p.flatten,∃id j,au ds.h id=some j/\a∈Z id:=λa d=>by
  have d:a∈((fR 0 e++ci).map Z).flatten:=by
   rw[fZ,oP,<-ad];rcases dX.1 d with b|b
   ·exact mS _ b
   exact kU _ (D.mem_iff.2 (mS _ b))
  obtain⟨co,L,z⟩:=it.1 d;obtain⟨id,O,rfl⟩:=bR.1 L;obtain⟨j,v⟩:=a4 id O;exact⟨id,j,v,z⟩
 have cs:∃w,(results m X.tmps).run E.P F=.ok w F/\∃H r p dl,Ending.returned w=.returned (ow dl)/\Hh y G x K e l S H r p dl F:=
  ⟨_,XM fn X.tmps F f3,H,r,p,_,rfl,d2,V,A,(λa d=>by
   obtain⟨id,j,v,d6⟩:=d5 a d;obtain⟨aw,t,T,f1⟩:=(g.tree id j v).2.2 a d6;exact⟨aw,t,T,f1⟩),g.i0,(λa d=>by
   rcases g.i1 a d with b|b|b
   ·exact .inl b
   ·exact .inr ⟨g.ib a (.inl d),.inl b⟩
   exact .inr ⟨g.ib a (.inl d),.inr b⟩),g.size,g.os,g.tape,g.output,g.evo,λa d d7=>g.frame a d d7⟩
 rcases d8 with rfl|rfl
 ·exact⟨ap,cs⟩
 exact⟨ap,cs⟩
end
end
section
open Classical in
def pick {a:Type} (c:a->Prop):Option a:=if h:∃b,c b then some h.choose else none
def Wo {d:a->Prop} {c:a} (b:pick d=some c):d c:=by
 unfold pick at b;split at b
 ·rename_i e;cases b;exact e.choose_spec
 cases b
inductive mU where
 |v (τ:ai)
 |s (a:ao)
 |p (id:Nat) (a b:List aW)
 |w (id:Nat)
structure lx where
 g:List (Nat×mU)
 h:List (Nat×ai)
@[reducible] def oC:List (Nat×mU)->Type->Type
 |[],r=>r
 |(_,.v a)::l,r=>a.den×oC l r
 |(_,.s _)::l,r=>oC l r
 |(_,.p _ _ _)::l,r=>Nat×oC l r
 |(_,.w _)::l,r=>c2×oC l r
@[reducible] def s7:List (Nat×ai)->Type
 |[]=>Unit
 |(_,a)::l=>a.den×s7 l
@[reducible] def lx.den (a:lx):Type:=oC a.g (s7 a.h)
def mn {e:Type}:(c:List (Nat×mU))->oC c e->List (Nat×ao)
 |[],_=>[]
 |(d,.v f)::c,s=>(d,.val f s.1)::mn c s.2
 |(d,.s a)::c,s=>(d,a)::mn c s
 |(d,.p id a b)::c,s=>(d,.ref id (a++.idx s.1::b))::mn c s.2
 |(d,.w id)::c,s=>(d,.view id [] s.1.1 s.1.2)::mn c s.2
def sj {b:Type}:(a:List (Nat×mU))->oC a b->b
 |[],s=>s
 |(_,.v _)::a,s=>sj a s.2
 |(_,.s _)::a,s=>sj a s
 |(_,.p _ _ _)::a,s=>sj a s.2
 |(_,.w _)::a,s=>sj a s.2
def sh:(a:List (Nat×ai))->s7 a->List (Nat×aH)
 |[],_=>[]
 |(d,b)::a,s=>(d,⟨b,s.1⟩)::sh a s.2
def jh (a:lx) (b:a.den):aO:=⟨mn a.g b,sh a.h (sj a.g b)⟩
def gv {τ:ai} (a:ai) (b:τ.den):Option a.den:=if e:τ=a then some (e▸b) else none
def iR {b:x.den} {c:n.den} (a:gv n b=some c):(⟨x,b⟩:aH)=⟨n,c⟩:=by
 unfold gv at a;split at a
 ·rename_i d;subst d;cases a;rfl
 cases a
def tb:aW->aW->Bool
 |.idx a,.idx b=>Nat.beq a b
 |.deref,.deref|.unst,.unst|.fst,.fst|.snd,.snd=>true
 |_,_=>false
def tb.ok {a:aW} (b:tb T a=true):T=a:=by cases T<;>cases a<;>first|rfl|(cases b;done)|(rw[ep b])
def j0:List aW->List aW->Bool
 |[],[]=>true
 |a::c,b::d=>tb a b&&j0 c d
 |_,_=>false
def j0.ok:∀{c d:List aW},j0 c d=true->c=d
 |[],[],_=>rfl
 |[],_::_,b=>by cases b
 |_::_,[],b=>by cases b
 |a::c,e::d,b=>by simp only[j0,bc] at b;rw[tb.ok b.1,j0.ok b.2]
def rJ:ao->ao->Bool
 |.ref a c,.ref b d=>Nat.beq a b&&j0 c d
 |.addr a c,.addr b d=>Nat.beq a b&&j0 c d
 |_,_=>false
def rJ.ok {b c:ao} (a:rJ b c=true):b=c:=by cases b<;>cases c<;>first|(cases a;done)|(simp only[rJ,bc] at a;rw[ep a.1,j0.ok a.2])
def rK:List ao->List ao->Bool
 |[],[]=>true
 |a::c,b::d=>rJ a b&&rK c d
 |_,_=>false
def rK.ok:∀{c d:List ao},rK c d=true->c=d
 |[],[],_=>rfl
 |[],_::_,b=>by cases b
 |_::_,[],b=>by cases b
 |a::c,e::d,b=>by simp only[rK,bc] at b;rw[rJ.ok b.1,rK.ok b.2]
def qf:ao->ao->Bool
 |.df c e,.df d f=>Nat.beq c d&&rK e f
 |a,b=>rJ a b
def qf.ok {b c:ao} (a:qf b c=true):b=c:=by cases b<;>cases c<;>first|exact rJ.ok a|(simp only[qf,bc] at a;rw[ep a.1,rK.ok a.2])
def yt:List aW->List aW->List aW->ac3
 |[],a,.idx k::b=>bif j0 a b then some k else none
 |s::c,a,d::b=>bif tb s d then yt c a b else none
 |_,_,_=>none
def M9:∀{f b e:List aW} {d:Nat},yt f b e=some d->e=f++.idx d::b
 |[],b,[],d,a=>by cases a
 |[],b,s::e,d,a=>by
  cases s<;>simp only[yt] at a<;>try (cases a;done)
  cases c:j0 b e with
  |false=>rw[c] at a;cases a
  |true=>rw[c] at a;cases a;rw[j0.ok c];rfl
 |s::f,b,[],d,a=>by cases a
 |s::f,b,g::e,d,a=>by
  simp only[yt] at a;cases c:tb s g with
  |false=>rw[c] at a;cases a
  |true=>rw[c] at a;rw[tb.ok c,M9 a];rfl
def ov {f:Type} (e:List (Nat×ao)) (g:Option f):(c:List (Nat×mU))->Option (oC c f)
 |[]=>g
 |(d,.v o)::c=>match gt e d with
  |.val _ m=>match gv o m with
   |some n=>(ov e g c).map (λi=>(n,i))
   |none=>none
  |_=>none
 |(d,.s a)::c=>match qf a (gt e d) with
  |true=>ov e g c
  |false=>none
 |(d,.p id a b)::c=>match gt e d with
  |.ref h i=>bif Nat.beq id h then match yt a b i with
   |some k=>(ov e g c).map (λf=>(k,f))
   |none=>none else none
  |_=>none
 |(d,.w id)::c=>match gt e d with
  |.view h [] l j=>bif Nat.beq id h then(ov e g c).map (λf=>((l,j),f)) else none
  |_=>none
def Ci (b:List (Nat×aH)):(a:List (Nat×ai))->Option (s7 a)
 |[]=>some ()
 |(d,g)::a=>match au b d with
  |some e=>match gv g e.2 with
   |some f=>(Ci b a).map (λc=>(f,c))
   |none=>none
  |none=>none
def uL:List (Nat×ai)->Nat->Bool
 |[],_=>false
 |(k,_)::r,n=>bif Nat.beq k n then true else uL r n
def oD:List (Nat×mU)->List (Nat×ai)->Bool
 |[],_=>true
 |(_,.v _)::l,h=>oD l h
 |(_,.s a)::l,h=>(a.ids.all λid=>uL h id)&&oD l h
 |(_,.p id _ _)::l,h=>uL h id&&oD l h
 |(_,.w id)::l,h=>uL h id&&oD l h
def proj (a:lx) (b:aO):Option a.den:=bif oD a.g a.h then ov b.g (Ci b.h a.h) a.g else none
def Bi:∀{b:List (Nat×ai)} {c:s7 b} {id:Nat},uL b id=true->(au (sh b c) id).isSome=true
 |[],_,_,a=>by cases a
 |(k,e)::b,c,id,a=>by
  simp only[uL] at a;simp only[sh,au];cases d:Nat.beq k id with
  |true=>rfl
  |false=>rw[d] at a;exact Bi (by simpa using a)
def x5 {o:Type} {q:aO} {n:Option o}:∀{e:List (Nat×mU)} {f:oC e o},ov q.g n e=some f->m0 (mn e f) q/\n=some (sj e f)
 |[],f,c=>⟨trivial,c⟩
 |(d,.v F)::e,f,c=>by
  simp only[ov] at c;split at c
  case h_2=>cases c
  rename_i G D u;split at c
  case h_2=>cases c
  rename_i E x;obtain⟨y,k,rfl⟩:=dY.1 c;obtain⟨h,i⟩:=x5 k;refine⟨⟨?_,h⟩,i⟩;rw[u];cases iR x;rfl
 |(d,.s a)::e,f,c=>by
  simp only[ov] at c;split at c
  case h_2=>cases c
  rename_i r;obtain⟨h,i⟩:=x5 c;exact⟨⟨(qf.ok r).symm,h⟩,i⟩
 |(d,.p id a b)::e,f,c=>by
  simp only[ov] at c;split at c
  case h_2=>cases c
  rename_i m y k;cases j:Nat.beq id m with
  |false=>rw[j] at c;cases c
  |true=>
  rw[j] at c;simp only[cond_true] at c;split at c
  case h_2=>cases c
  rename_i B t;obtain⟨z,l,rfl⟩:=dY.1 c;obtain⟨h,i⟩:=x5 l;refine⟨⟨?_,h⟩,i⟩;rw[k,M9 t,ep j]
 |(d,.w id)::e,f,c=>by
  simp only[ov] at c;split at c
  case h_2=>cases c
  rename_i m C A k;cases j:Nat.beq id m with
  |false=>rw[j] at c;cases c
  |true=>
  rw[j] at c;simp only[cond_true] at c;obtain⟨z,l,rfl⟩:=dY.1 c;obtain⟨h,i⟩:=x5 l;refine⟨⟨?_,h⟩,i⟩;rw[k,ep j]
def Me {e:aO}:∀{b:List (Nat×ai)} {c:s7 b},Ci e.h b=some c->m1 (sh b c) e
 |[],c,a=>trivial
 |(d,m)::b,c,a=>by
  simp only[Ci] at a;split at a
  case h_2=>cases a
  rename_i j g;split at a
  case h_2=>cases a
  rename_i l i;obtain⟨k,f,rfl⟩:=dY.1 a;refine⟨?_,Me f⟩;rw[g];cases j;rw[iR i]
def yr {r:Type} {c:List (Nat×ai)} {t:s7 c}:∀{l:List (Nat×mU)} {s:oC l r},oD l c=true->kE (mn l s) (sh c t)=true
 |[],s,h=>rfl
 |(d,.v f)::l,s,h=>by have:=yr (r:=r) (t:=t) (l:=l) (s:=s.2) h;simp only[kE,mn,ru,ao.ids,List.all_nil,Bool.true_and] at this|-;exact this
 |(d,.s a)::l,s,h=>by simp only[oD,bc] at h;have:=yr (r:=r) (t:=t) (l:=l) (s:=s) h.2;simp only[kE,mn,ru,bc] at this|-;refine⟨?_,this⟩;rw[eJ] at h|-;exactλid e=>Bi (h.1 id e)
 |(_,.p id a b)::l,s,h=>by simp only[oD,bc] at h;have:=yr (r:=r) (t:=t) (l:=l) (s:=s.2) h.2;simp only[kE,mn,ru,bc] at this|-;refine⟨?_,this⟩;simp only[ao.ids,ru,List.all_nil,Bool.and_true];exact Bi h.1
 |(_,.w id)::l,s,h=>by simp only[oD,bc] at h;have:=yr (r:=r) (t:=t) (l:=l) (s:=s.2) h.2;simp only[kE,mn,ru,bc] at this|-;refine⟨?_,this⟩;simp only[ao.ids,ru,List.all_nil,Bool.and_true];exact Bi h.1
def q7 {a:lx} {c:a.den} (b:proj a i=some c):m0 (jh a c).g i/\m1 (jh a c).h i/\kE (jh a c).g (jh a c).h=true:=by
 unfold proj at b;cases d:oD a.g a.h with
 |false=>rw[d] at b;cases b
 |true=>
  rw[d] at b;obtain⟨e,f⟩:=x5 b;exact⟨e,Me f,yr d⟩
inductive fu where
 |v (τ:ai)
 |m (τ:ai)
 |o (τ:ai)
 |c (f:Nat) (τs:List ai)
 |n
 |s (f:Nat) (l:ac7)
 |w (σ:ai)
@[reducible] def j1:List ai->Type
 |[]=>Unit
 |τ::a=>τ.den×j1 a
@[reducible] def fB:List fu->Type
 |[]=>Unit
 |.c _ e::a=>j1 e×fB a
 |.n::a=>Unit×fB a
 |.s _ _::a=>Unit×fB a
 |.v b::a=>b.den×fB a
 |.m b::a=>b.den×fB a
 |.o b::a=>b.den×fB a
 |.w d::a=>(List d.den×Nat×Nat)×fB a
@[reducible] def g9:List fu->Type->Type
 |[],a=>a
 |.m e::b,a=>e.den×g9 b a
 |.w d::b,a=>List d.den×g9 b a
 |.v _::b,a=>g9 b a
 |.o _::b,a=>g9 b a
 |.c _ _::b,a=>g9 b a
 |.n::b,a=>g9 b a
 |.s _ _::b,a=>g9 b a
structure hV where
 f:Nat
 ps:List fu
 rs:List ai
 vo:fB ps->Option (g9 ps (j1 rs))
def hl:(c:List ai)->j1 c->List aH
 |[],_=>[]
 |τ::b,a=>⟨τ,a.1⟩::hl b a.2
def eO {j:Type}:(f:List fu)->fB f->g9 f j->List fH
 |[],_,_=>[]
 |.v e::d,a,b=>.v ⟨e,a.1⟩::eO d a.2 b
 |.m e::d,a,b=>.m ⟨e,a.1⟩ b.1::eO d a.2 b.2
 |.o e::d,a,b=>.o ⟨e,a.1⟩::eO d a.2 b
 |.c h l::d,a,b=>.c h (hl l a.1)::eO d a.2 b
 |.n::d,a,b=>.n::eO d a.2 b
 |.w k::d,a,b=>.w k a.1.1 a.1.2.1 a.1.2.2 b.1::eO d a.2 b.2
 |.s g i::d,a,b=>.s g i::eO d a.2 b
def gI {d:Type}:(e:List fu)->g9 e d->d
 |[],a=>a
 |.m _::b,a=>gI b a.2
 |.w _::b,a=>gI b a.2
 |.v _::b,a=>gI b a
 |.o _::b,a=>gI b a
 |.c _ _::b,a=>gI b a
 |.n::b,a=>gI b a
 |.s _ _::b,a=>gI b a
def hT:Nat->List fu->Option cR
 |_,[]=>none
 |k,.s a b::_=>some (k,a,b)
 |k,_::c=>hT (k+1) c
def yl {r:Type}:∀{k:Nat} {ps:List fu} {a:fB ps} {b:g9 ps r},ny k (eO ps a b)=hT k ps
 |k,[],a,b=>rfl
 |k,e::d,a,b=>by have c:=λa b=>yl (r:=r) (k:=k+1) (ps:=d) (a:=a) (b:=b);cases e<;>first|exact c _ _|rfl
def aB (E:dR) (a:hV):Prop:=
 (∀(d:acZ) (e:World),(callFunc a.f d).run E.P e=.ok (.enter a.f d) e)/\∀c b,a.vo c=some b->pW E a.f (eO a.ps c b) (hl a.rs (gI a.ps b))
def gg:(j:ai)->j.den->List aW->(a:ai)->Option a.den
 |_,c,[],a=>gv a c
 |.osl d,i,.idx h::b,a=>match i[h]? with
  |some g=>gg d g b a
  |none=>none
 |.optr d,c,.deref::b,a=>gg d c b a
 |.st d,c,.unst::b,a=>gg d c b a
 |.pr e _,c,.fst::b,a=>gg e c.1 b a
 |.pr _ f,c,.snd::b,a=>gg f c.2 b a
 |_,_,_,_=>none
def RB {a:n.den}:gg n a [] x=gv x a:=by cases n<;>rfl
def g5:∀{g:List aW} {τ:ai} {e:τ.den} {d:ai} {f:d.den},gg τ e g d=some f->c4 τ e g d f
 |[],τ,e,d,f,c=>by rw[RB] at c;cases iR c;exact c4.eQ.2 ⟨rfl,rfl⟩
 |s::g,τ,e,d,f,c=>by
  cases τ<;>cases s<;>simp only[gg] at c<;>try (cases c;done)
  case osl.idx t i=>
   split at c
   ·rename_i h j;exact⟨h,j,g5 c⟩
   cases c
  case optr.deref t=>exact g5 (τ:=t) c
  case st.unst t=>exact g5 (τ:=t) c
  case pr.fst a b=>exact g5 (τ:=a) c
  case pr.snd a b=>exact g5 (τ:=b) c
def vg {τ':ai} (b:τ'.den) (a:ai):Option a.den:=if e:c7 τ' a=true then some (cast (c7.den e) b) else none
def L3 {b:x.den} {c:n.den} (a:vg b n=some c):l8 x b n c:=by
 unfold vg at a;split at a
 ·rename_i d;cases a;exact .same d (cast_heq _ _).symm
 cases a
def x4:(c:ai)->c.den->(b:ai)->Option b.den
 |.optr d,a,.ptr .dd e=>(vg (τ':=d) a e).map some
 |_,a,b=>vg a b
def Wk {c:x.den} {d:n.den} (a:x4 x c n=some d):l8 x c n d:=by
 unfold x4 at a;split at a
 ·obtain⟨f,b,rfl⟩:=dY.1 a;simp only[vg] at b;split at b
  ·rename_i e;cases b;exact .ptr e (cast_heq _ _).symm
  cases b
 exact L3 a
def m2:ai->Value->Bool
 |τ,.agg _=>oj τ
 |_,.tuple _=>false
 |τ,_=>!oj τ
def m2.ok (a:m2 n H=true):bG n H.cells.toList=H:=by
 cases H<;>simp only[m2] at a<;>first
  |(cases a;done)
  |(rw[Co a];rfl)
  |(rw[vD] at a;rw[Cn a];rfl)
def mg (
 h:List (Nat×aH)) (f:ac7):ao->(a:ai)->Option a.den
 |.val _ g,a=>vg g a
 |.bQ d,a=>bif m2 a d then he a d.cells.toList else none
 |.ref id c,a=>match c9 id f with
  |true=>none
  |false=>match au h id with
   |none=>none
   |some b=>match dF b.1 c with
    |none=>none
    |some e=>match gg b.1 b.2 c e with
     |none=>none
     |some i=>x4 e i a
 |_,_=>none
def HS {i:n.den} (a:mg e f d n=some i):rn e f d ⟨n,i⟩:=by
 cases d with
 |val c b=>exact L3 a
 |bQ p=>
  simp only[mg] at a;cases g:m2 n p with
  |false=>rw[g] at a;cases a
  |true=>rw[g] at a;exact⟨a,m2.ok g⟩
 |ref id m=>
  simp only[mg] at a;split at a
  ·cases a
  rename_i j;split at a
  ·cases a
  rename_i o k;split at a
  ·cases a
  rename_i c q;split at a
  ·cases a
  rename_i b l;have:c9 id f=false/\∃h c b,au e id=some h/\c4 h.1 h.2 m c b/\l8 c b n i:=⟨j,o,c,b,k,g5 l,Wk a⟩;exact this
 |_=>cases a
def nc (b:List (Nat×aH)) (a:ac7):(g:List ai)->List ao->Option (j1 g)
 |[],[]=>some ()
 |τ::d,c::as=>match mg b a c τ with
  |some f=>(nc b a d as).map (λe=>(f,e))
  |none=>none
 |_,_=>none
def Jx {f:List (Nat×aH)} {d:ac7}:∀{c:List ai} {e:List ao} {b:j1 c},nc f d c e=some b->g2 (rn f d) e (hl c b)
 |[],[],_,_=>trivial
 |[],_::_,_,a=>by cases a
 |_::_,[],_,a=>by cases a
 |τ::j,i::as,b,a=>by
  simp only[nc] at a;split at a
  case h_2=>cases a
  rename_i l h;obtain⟨k,g,rfl⟩:=dY.1 a;exact⟨HS h,Jx g⟩
def pO:List ao->List fu->ac7
 |.ref id []::as,.m _::a=>id::pO as a
 |.ref id []::as,.o _::a=>id::pO as a
 |.view id [] _ _::as,.w _::a=>id::pO as a
 |_::as,_::a=>pO as a
 |_,_=>[]
def q1:Value->Bool
 |.slice none 0 0=>true
 |_=>false
def q1.ok (a:q1 H=true):H=.slice none 0 0:=by
 unfold q1 at a;split at a
 ·rfl
 cases a
def xN:(a:ai)->Value->Option a.den
 |.osl _,.slice none 0 0=>some []
 |_,_=>none
def Tv {b:n.den} (a:xN n H=some b):H=.slice none 0 0/\∃c,(⟨n,b⟩:aH)=⟨.osl c,[]⟩:=by
 unfold xN at a;split at a
 ·cases a;exact⟨rfl,_,rfl⟩
 cases a
def ea (d:List (Nat×aH)) (f:ac7):(t:List fu)->List ao->Option (fB t)
 |[],[]=>some ()
 |.v g::b,p::as=>match mg d f p g with
  |some e=>(ea d f b as).map (λa=>(e,a))
  |none=>none
 |.c r u::b,.df q a::as=>bif Nat.beq q r then match nc d f u a with
  |some e=>(ea d f b as).map (λa=>(e,a))
  |none=>none else none
 |.m g::b,.ref id []::as=>bif g.es&&pT g then match au d id with
  |some h=>match gv g h.2 with
   |some e=>(ea d f b as).map (λa=>(e,a))
   |none=>none
  |none=>none else none
 |.o g::b,.ref id []::as=>match au d id with
  |some h=>match gv g h.2 with
   |some e=>(ea d f b as).map (λa=>(e,a))
   |none=>none
  |none=>none
 |.n::b,.bQ i::as=>bif q1 i then(ea d f b as).map (λa=>((),a)) else none
 |.s _ _::b,_::as=>(ea d f b as).map (λa=>((),a))
 |.o g::b,.bQ i::as=>match xN g i with
  |some e=>(ea d f b as).map (λa=>(e,a))
  |none=>none
 |.w l::b,.view id [] k j::as=>bif l.es then(bif Nat.blt k j then match au d id with
  |some h=>match gv (.osl l) h.2 with
   |some e=>(ea d f b as).map (λa=>((e,k,j),a))
   |none=>none
  |none=>none else none) else none
 |_,_=>none
def ze {h:Type} (f:List (Nat×aH)) (e:ac7) (av:ao) (c:ai) (d:c.den->Option h):Option h:=match av with
 |.ref id g=>match c9 id e with
  |true=>none
  |false=>match au f id with
   |none=>none
   |some a=>match dF a.1 g with
    |none=>none
    |some i=>(gg a.1 a.2 g i).bind λj=>match x4 i j c with
     |none=>none
     |some b=>d b
 |av=>match mg f e av c with
  |none=>none
  |some b=>d b
def Pf {g:n.den->Option a}:ze e f d n g=(mg e f d n).bind g:=by
 cases d with
 |ref id h=>
  simp only[ze,mg];cases c9 id f with
  |true=>rfl
  |false=>
   simp only;cases au e id with
   |none=>rfl
   |some c=>
    simp only;cases dF c.1 h with
    |none=>rfl
    |some i=>
     simp only;cases gg c.1 c.2 h i with
     |none=>rfl
     |some j=>
      simp only[aG];cases x4 i j n<;>rfl
 |_=>
  simp only[ze];split
  ·rename_i b;rw[b];rfl
  rename_i b;rw[b];rfl
def iz {p:Type} (e:List (Nat×aH)) (g:ac7):(x:List fu)->List ao->(fB x->Option p)->Option p
 |[],[],a=>a ()
 |.v h::d,r::as,a=>ze e g r h λf=>iz e g d as λb=>a (f,b)
 |.c u y::d,.df t b::as,a=>bif Nat.beq t u then match nc e g y b with
  |some f=>iz e g d as λb=>a (f,b)
  |none=>none else none
 |.m h::d,.ref id []::as,a=>bif h.es&&pT h then match au e id with
  |some i=>match gv h i.2 with
   |some f=>iz e g d as λb=>a (f,b)
   |none=>none
  |none=>none else none
 |.o h::d,.ref id []::as,a=>match au e id with
  |some i=>match gv h i.2 with
   |some f=>iz e g d as λb=>a (f,b)
   |none=>none
  |none=>none
 |.n::d,.bQ j::as,a=>bif q1 j then iz e g d as λb=>a ((),b) else none
 |.s _ _::d,_::as,a=>iz e g d as λb=>a ((),b)
 |.o h::d,.bQ j::as,a=>match xN h j with
  |some f=>iz e g d as λb=>a (f,b)
  |none=>none
 |.w q::d,.view id [] l k::as,a=>bif q.es then(bif Nat.blt l k then match au e id with
  |some i=>match gv (.osl q) i.2 with
   |some f=>iz e g d as λb=>a ((f,l,k),b)
   |none=>none
  |none=>none else none) else none
 |_,_,_=>none
def lJ {A:Type} {d:List (Nat×aH)} {f:ac7}:∀{l:List fu} {r:List ao} {b:fB l->Option A},iz d f l r b=(ea d f l r).bind b
 |[],[],b=>rfl
 |[],_::_,b=>rfl
 |p::a,[],b=>by cases p<;>rfl
 |.v h::a,e::as,b=>by
  simp only[iz,ea,Pf];cases mg d f e h with
  |none=>rfl
  |some g=>
   simp only[aG];rw[lJ];cases ea d f a as<;>rfl
 |.c z B::a,e::as,b=>by
  cases e with
  |df y i=>
   simp only[iz,ea];cases Nat.beq y z with
   |false=>rfl
   |true=>
    simp only[cond_true];cases nc d f B i with
    |none=>rfl
    |some g=>
     simp only;rw[lJ];cases ea d f a as<;>rfl
  |ref id p=>cases p<;>rfl
  |_=>rfl
 |.m h::a,e::as,b=>by
  cases e with
  |ref id p=>
   cases p with
   |cons=>rfl
   |nil=>
    simp only[iz,ea];cases(h.es&&pT h) with
    |false=>rfl
    |true=>
     simp only[cond_true];cases au d id with
     |none=>rfl
     |some j=>
      simp only;cases gv h j.2 with
      |none=>rfl
      |some g=>
       simp only;rw[lJ];cases ea d f a as<;>rfl
  |_=>rfl
 |.o h::a,e::as,b=>by
  cases e with
  |ref id p=>
   cases p with
   |cons=>rfl
   |nil=>
    simp only[iz,ea];cases au d id with
    |none=>rfl
    |some j=>
     simp only;cases gv h j.2 with
     |none=>rfl
     |some g=>
      simp only;rw[lJ];cases ea d f a as<;>rfl
  |bQ q=>
   simp only[iz,ea];cases xN h q with
   |none=>rfl
   |some g=>
    simp only;rw[lJ];cases ea d f a as<;>rfl
  |_=>rfl
 |.w x::a,e::as,b=>by
  cases e with
  |view id p u t=>
   cases p with
   |cons=>rfl
   |nil=>
    simp only[iz,ea];cases x.es with
    |false=>rfl
    |true=>
     simp only[cond_true];cases Nat.blt u t with
     |false=>rfl
     |true=>
     simp only[cond_true];cases au d id with
     |none=>rfl
     |some j=>
      simp only;cases gv (.osl x) j.2 with
      |none=>rfl
      |some g=>
       simp only;rw[lJ];cases ea d f a as<;>rfl
  |ref id p=>cases p<;>rfl
  |_=>rfl
 |.n::a,e::as,b=>by
  cases e with
  |bQ q=>
   simp only[iz,ea];cases q1 q with
   |false=>rfl
   |true=>
    simp only[cond_true];rw[lJ];cases ea d f a as<;>rfl
  |ref id p=>cases p<;>rfl
  |_=>rfl
 |.s C i::a,e::as,b=>by
  have k:∀g:Option (fB a),(g.bind λi=>b ((),i))=(g.map λi=>((),i)).bind b:=λg=>(by cases g<;>rfl);cases e with
  |ref id p=>cases p<;>(simp only[iz,ea];rw[lJ];exact k _)
  |view id p u t=>cases p<;>(simp only[iz,ea];rw[lJ];exact k _)
  |_=>simp only[iz,ea];rw[lJ];exact k _
def GC {r:Type}:∀{ps:List fu} {a:fB ps} {b:g9 ps r} {avs:List ao},eC avs (eO ps a b)=pO avs ps
 |[],a,b,avs=>by cases avs with|nil=>rfl|cons h c=>cases h<;>first|rfl|(rename_i id p;cases p<;>rfl)|(rename_i id p c g;cases p<;>rfl)
 |p::c,a,b,[]=>by cases p<;>rfl
 |p::c,a,b,f::avs=>by have d:=λa b=>GC (r:=r) (ps:=c) (a:=a) (b:=b) (avs:=avs);cases p<;>cases f<;>first|exact d _ _|(rename_i id e;cases e<;>simp only[eO,eC,pO,d];done)|(rename_i id e c g;cases e<;>simp only[eO,eC,pO,d])
def og {G:Type} {r:List (Nat×aH)} {x:ac7}:∀{t:List fu} {f:fB t} {g:g9 t G} {i:List ao},ea r x t i=some f->mP r x i (eO t f g)
 |[],f,g,[],_=>trivial
 |[],f,g,_::_,a=>by cases a
 |p::j,f,g,[],a=>by cases p<;>cases a
 |.v u::j,f,g,e::i,a=>by
  simp only[ea] at a;split at a
  case h_2=>cases a
  rename_i l h;obtain⟨k,d,rfl⟩:=dY.1 a;exact⟨by cases e<;>exact HS h,og d⟩
 |.c F J::j,f,g,e::i,a=>by
  cases e with
  |df E k=>
   simp only[ea] at a;cases b:Nat.beq E F with
   |false=>rw[b] at a;cases a
   |true=>
    rw[b] at a;obtain rfl:=ep b;simp only[cond_true] at a;split at a
    case h_2=>cases a
    rename_i l h;obtain⟨I,d,rfl⟩:=dY.1 a;exact⟨⟨rfl,Jx h⟩,og d⟩
  |ref id p=>cases p<;>cases a
  |_=>cases a
 |.m u::j,f,g,e::i,a=>by
  cases e with
  |ref id p=>cases p with
   |cons=>cases a
   |nil=>
    simp only[ea] at a;cases b:(u.es&&pT u) with
    |false=>rw[b] at a;cases a
    |true=>
     rw[b] at a;simp only[bc] at b;simp only[cond_true] at a;split at a
     case h_2=>cases a
     rename_i B q;split at a
     case h_2=>cases a
     rename_i l h;obtain⟨k,d,rfl⟩:=dY.1 a;refine⟨⟨?_,b.1,b.2⟩,og d⟩;rw[q,<-iR h]
  |_=>cases a
 |.o u::j,f,g,e::i,a=>by
  cases e with
  |ref id p=>cases p with
   |cons=>cases a
   |nil=>
    simp only[ea] at a;split at a
    case h_2=>cases a
    rename_i B q;split at a
    case h_2=>cases a
    rename_i l h;obtain⟨k,d,rfl⟩:=dY.1 a;refine⟨?_,og d⟩;show au r id=some _;rw[q,<-iR h]
  |bQ C=>
   simp only[ea] at a;split at a
   case h_2=>cases a
   rename_i l h;obtain⟨k,d,rfl⟩:=dY.1 a;exact⟨Tv h,og d⟩
  |_=>cases a
 |.w H::j,f,g,e::i,a=>by
  cases e with
  |view id p A y=>cases p with
   |cons=>cases a
   |nil=>
    simp only[ea] at a;cases b:H.es with
    |false=>rw[b] at a;cases a
    |true=>
     rw[b] at a;simp only[cond_true] at a;cases z:Nat.blt A y with
     |false=>rw[z] at a;cases a
     |true=>
     rw[z] at a;simp only[cond_true] at a;split at a
     case h_2=>cases a
     rename_i B q;split at a
     case h_2=>cases a
     rename_i l h;obtain⟨k,d,rfl⟩:=dY.1 a;refine⟨⟨?_,⟨rfl,rfl⟩,eM z,b⟩,og d⟩;rw[q,<-iR h]
  |ref id p=>cases p<;>cases a
  |_=>cases a
 |.n::j,f,g,e::i,a=>by
  cases e with
  |bQ C=>
   simp only[ea] at a;cases b:q1 C with
   |false=>rw[b] at a;cases a
   |true=>
    rw[b] at a;obtain⟨k,d,rfl⟩:=dY.1 a;exact⟨q1.ok b,og d⟩
  |ref id p=>cases p<;>cases a
  |_=>cases a
 |.s D k::j,f,g,e::i,a=>by
  have a:(ea r x j i).map (λl=>(((),l):fB (.s D k::j)))=some f:=by
   cases e with
   |ref id p=>cases p<;>exact a
   |view id p A y=>cases p<;>exact a
   |_=>exact a
  obtain⟨l,d,rfl⟩:=dY.1 a;refine⟨?_,og d⟩;cases e with
  |ref id p=>cases p<;>trivial
  |view id p A y=>cases p<;>trivial
  |_=>trivial
end
section
def kJ:(τ:ai)->τ.den->List aW->(b:ai)->b.den->Option τ.den
 |τ,_,[],_,a=>gv τ a
 |.osl f,h,.idx g::c,b,a=>match h[g]? with
  |some k=>(kJ f k c b a).map λe=>h.set g e
  |none=>none
 |.optr f,d,.deref::c,b,a=>kJ f d c b a
 |.st f,d,.unst::c,b,a=>kJ f d c b a
 |.pr i _,d,.fst::c,b,a=>(kJ i d.1 c b a).map λe=>(e,d.2)
 |.pr _ j,d,.snd::c,b,a=>(kJ j d.2 c b a).map λe=>(d.1,e)
 |_,_,_,_,_=>none
def XR {b:n.den} {a:x.den}:kJ n b [] x a=gv n a:=by cases n<;>rfl
def dA.Tl {d:n.den} {a:x.den} {b:n.den} (c:gv n a=some b):dA n d [] x a b:=by cases iR c;cases n<;>exact⟨rfl,rfl⟩
def lg:∀{k:List aW} {τ:ai} {g:τ.den} {f:ai} {h:f.den} {j:τ.den},kJ τ g k f h=some j->dA τ g k f h j
 |[],τ,g,f,h,j,c=>by rw[XR] at c;exact dA.Tl c
 |s::k,τ,g,f,h,j,c=>by
  cases τ<;>cases s<;>simp only[kJ] at c<;>try (cases c;done)
  case osl.idx t i=>
   split at c
   ·rename_i l m;obtain⟨d,e,rfl⟩:=dY.1 c;exact⟨l,d,m,lg e,rfl⟩
   cases c
  case optr.deref t=>exact lg (τ:=t) c
  case st.unst t=>exact lg (τ:=t) c
  case pr.fst a b=>
   obtain⟨d,e,rfl⟩:=dY.1 c;exact⟨d,lg e,rfl⟩
  case pr.snd a b=>
   obtain⟨d,e,rfl⟩:=dY.1 c;exact⟨d,lg e,rfl⟩
def e9 (a:Int):ac3:=if 0<=a then some a.toNat else none
def Td {c:Int} (a:e9 c=some b):c=(b:Int):=by
 unfold e9 at a;split at a
 ·cases a;omega
 cases a
def bk (b:Nat) (a:Int):ac3:=if 0<=a/\a.toNat<b then some a.toNat else none
def JK {c:Int} (a:bk l c=some b):c=(b:Int)/\b<l:=by
 unfold bk at a;split at a
 ·cases a;omega
 cases a
def bJ (a:Nat):Option Unit:=if a<=e7 then some () else none
def uU {c:Unit} (a:bJ b=some c):b<=e7:=by
 unfold bJ at a;split at a
 ·assumption
 cases a
def gk (b:IntKind) (c a:Int):ac2:=if a≠0 then some (b.wrap (c.tdiv a)) else none
def fS (b a:Int):ac2:=if a≠0 then some (b.tmod a) else none
def gn (a:IntKind) (c b:Int):ac2:=if 0<=b then some (a.wrap (c*2^min b.toNat a.bits)) else none
def da (b:IntKind) (c a:Int):ac2:=if 0<=a then some (c.fdiv (2^min a.toNat b.bits)) else none
def dc (a:IntKind) (b c:Int):Int:=a.wrap (BitVec.ofInt a.bits b&&&BitVec.ofInt a.bits c).toNat
def eB (a:IntKind) (b c:Int):Int:=a.wrap (BitVec.ofInt a.bits b|||BitVec.ofInt a.bits c).toNat
def rm (a:IntKind) (b c:Int):Int:=a.wrap (BitVec.ofInt a.bits b^^^BitVec.ofInt a.bits c).toNat
def O3 (a:IntKind) (b c:Int):Int:=a.wrap (BitVec.ofInt a.bits b&&&~~~BitVec.ofInt a.bits c).toNat
def tS (c:Option ao) (a:Nat):ac3:=
 match c with
 |none=>some a
 |some (.val (.int _) b)=>e9 b
 |some _=>none
def zk {c:Option ao} (a:tS c b=some l):qi c b l:=by
 unfold tS at a;unfold qi;split at a
 ·cases a;rfl
 ·exact Td a
 cases a
def fy (b a c:Nat):Option Unit:=if b<=a/\a<=c then some () else none
def J1 {c:Unit} (a:fy l b W=some c):l<=b/\b<=W:=by
 unfold fy at a;split at a
 ·assumption
 cases a
def sV (_:Nat):Option Unit:=some ()
def dI (a b:Int):ac3:=if 0<=a/\a<=b/\b<=(e7:Int) then some a.toNat else none
open Classical in
def mC {b:Type} (c:Nat) (d a:Option b):Option b:=if c=0 then if d=a then a else none else a
def Tj {f g:Option a} {e:a} (c:mC b f g=some e):g=some e/\(b=0->f=some e):=by
 unfold mC at c;split at c
 ·split at c
  ·rename_i d;exact⟨c,λ_=>d.trans c⟩
  cases c
 rename_i d;exact⟨c,λh=>absurd h d⟩
def n9:ac8:=[0,1,28,2,29,14,24,3,30,22,20,15,25,17,4,8,31,27,13,23,21,19,16,7,26,12,18,6,11,5,10,9]
inductive Dd where
 |du (av:ao)
 |opt (α:Type) (o:Option α) (f:α->ao)
 |new (α:Type) (o:Option α) (t:α->aH) (d:Nat)
 |no
def iW (tt:List (TypeId×ai)) (z:List (Nat×ai)) (k:List (Nat×aH)) (g:Operand->ao) (w:Nat) (v:Op):Dd:=
 match v with
 |.binOp v _ b e _=>match g b,g e with
  |.val (.int c) b,.val (.int A) e=>if c=A then
   (match v with
   |.add=>.du (.val (.int c) (c.wrap (b+e)))
   |.sub=>.du (.val (.int c) (c.wrap (b-e)))
   |.mul=>.du (.val (.int c) (c.wrap (b*e)))
   |.quo=>.opt Int (gk c b e) (.val (.int c))
   |.rem=>.opt Int (fS b e) (.val (.int c))
   |.shl=>.opt Int (gn c b e) (.val (.int c))
   |.shr=>.opt Int (da c b e) (.val (.int c))
   |.and=>.du (.val (.int c) (dc c b e))
   |.or=>.du (.val (.int c) (eB c b e))
   |.xor=>.du (.val (.int c) (rm c b e))
   |.andNot=>.du (.val (.int c) (O3 c b e))
   |_=>.no) else
   (match v with
   |.shl=>.opt Int (gn c b e) (.val (.int c))
   |.shr=>.opt Int (da c b e) (.val (.int c))
   |_=>.no)
  |_,_=>.no
 |.unOp .neg _ b=>match g b with
  |.val (.int c) b=>.du (.val (.int c) (c.wrap (0-b)))
  |_=>.no
 |.convert t p b=>match au tt t,au tt p,g b with
  |some (.int _),some (.int c),.val (.int _) b=>.du (.val (.int c) (c.wrap b))
  |_,_,_=>.no
 |.nilCheck b=>match g b with
  |.val (.ptr r a) b=>.opt a.den b λe=>.val (.ptr r a) (some e)
  |_=>.no
 |.indexAddr h b q=>match eX tt h,g q with
  |some i,.val (.int _) q=>match g b with
   |.val (.a5 r a) j=>bif a1 i a then .opt a.den (ax j q) λe=>.val (.ptr r a) (some e) else .no
   |.ref id f=>match au k id with
    |some d=>match dF d.1 f with
     |some (.osl a)=>bif a1 i a then .opt Nat ((gg d.1 d.2 f (.osl a)).bind λj=>bk j.length q) λc=>.addr id (f++[.idx c]) else .no
     |_=>.no
    |none=>.no
   |.view id [] s u=>match au k id with
    |some d=>match d.1 with
     |.osl a=>bif a1 i a then .opt Nat (bk (u-s) q) λc=>.addr id [.idx (s+c)] else .no
     |_=>.no
    |none=>.no
   |_=>.no
  |_,_=>.no
 |.load h b=>match au tt h with
  |some i=>match g b with
   |.addr id f=>match au k id with
    |some d=>match dF d.1 f with
     |some a=>bif a1 i a&&a.pure then .opt a.den (gg d.1 d.2 f a) λe=>.val a e else .no
     |none=>.no
    |none=>.no
   |.ref id f=>match au k id with
    |some d=>match dF d.1 f with
     |some (.optr a)=>bif a1 i a&&a.pure then .opt a.den (gg d.1 d.2 (f++[.deref]) a) λe=>.val a e else .no
     |_=>.no
    |none=>.no
   |.val (.ptr _ a) b=>bif a1 i a then .opt a.den b λe=>.val a e else .no
   |_=>.no
  |none=>.no
 |.fieldAddr h b m=>match jS tt h,g b with
  |some i,.val (.ptr r (.st a)) b=>bif a1 i a&&(dP a m).isSome then .opt a.den b λe=>(match po a e m with
   |some n=>.val (.ptr r n.1) (some n.2)
   |none=>.dead) else .no
  |_,_=>.no
 |.slice h b s u none=>match eX tt h with
  |some i=>match g b with
   |.val (.a5 r a) j=>bif a1 i a then
    .opt c2 ((tS (s.map g) 0).bind λl=>(tS (u.map g) j.length).bind λp=>(fy l p j.length).map λ_=>(l,p)) (λn=>.val (.a5 r a) ((j.take n.2).drop n.1)) else .no
   |.ref id f=>match au k id with
    |some d=>match dF d.1 f with
     |some (.osl a)=>bif a1 i a then
      .opt c2 ((gg d.1 d.2 f (.osl a)).bind λj=>(tS (s.map g) 0).bind λl=>(tS (u.map g) j.length).bind λp=>(fy l p j.length).bind λ_=>(sV j.length).map λ_=>(l,p)) (λn=>.view id f n.1 n.2) else .no
     |_=>.no
    |none=>.no
   |_=>.no
  |none=>.no
 |.makeSlice h l o=>match eX tt h,au z w,au k w with
  |some i,some (.osl a),none=>match ko a,g l,g o with
   |some y,.val (.int _) l,.val (.int _) o=>bif a1 i a&&Nat.ble a.size 2000 then
    .new Nat (dI l o) (λm=>⟨.osl a,List.replicate m y⟩) w else .no
   |_,_,_=>.no
  |_,_,_=>.no
 |.index h b q=>match au tt h,g b,g q with
  |some .str,.bQ (.string t),.val (.int _) m=>.opt Int (oF t m) (.val (.int .u8))
  |some .str,.val .str t,.val (.int _) m=>.opt Int (oF t m) (.val (.int .u8))
  |_,_,_=>.no
 |.lookup h b c B=>match jo tt h,g b,g c with
  |some i,.ref id f,.val (.int .i64) c=>match au k id with
   |some d=>match dF d.1 f with
    |some (.mp a)=>match ko a with
     |some y=>bif a1 i a then .opt (Option (List (Int×a.den)×Nat)) (gg d.1 d.2 f (.mp a)) λx=>BN a x y c B else .no
     |none=>.no
    |_=>.no
   |none=>.no
  |_,_,_=>.no
 |.call o=>match o.callee,o.args.toList,o.argTypes.toList with
  |.builtin .len,[b],[h]=>match eX tt h,g b with
   |some _,.ref id f=>match au k id with
    |some d=>match dF d.1 f with
     |some (.osl a)=>.opt (List a.den) (gg d.1 d.2 f (.osl a)) λj=>.val (.int .i64) (j.length:Int)
     |_=>.no
    |none=>.no
   |none,.ref id f=>match jo tt h,au k id with
    |some _,some d=>match dF d.1 f with
     |some (.mp a)=>.opt (Option (List (Int×a.den)×Nat)) (gg d.1 d.2 f (.mp a)) λx=>.val (.int .i64) (uY x)
     |_=>.no
    |_,_=>.no
   |_,_=>.no
  |_,_,_=>.no
 |_=>.no
def Ji:∀{t:ai} {y:t.den} {b:Nat},(dP t b).isSome=true->∃d,po t y b=some d
 |.pr e c,y,0,_=>⟨_,rfl⟩
 |.pr e c,y,b+1,a=>by
  simp only[dP] at a;split at a
  ·rename_i d f;exact Ji (t:=c) (by rw[f];rfl)
  cases a
 |.int _,_,_,a=>by cases a
 |.bool,_,_,a=>by cases a
 |.str,_,_,a=>by cases a
 |.a5 _ _,_,_,a=>by cases a
 |.ptr _ _,_,_,a=>by cases a
 |.osl _,_,_,a=>by cases a
 |.optr _,_,_,a=>by cases a
 |.st _,_,_,a=>by cases a
 |.nil,_,_,a=>by cases a
 |.c6,_,_,a=>by cases a
def Dd.K (g:Dd) (b:ao->List (Nat×aH)->Prop):Prop:=
 match g with
 |.du e=>b e []
 |.opt _ c f=>∃a,c=some a/\b (f a) []
 |.new _ c h d=>∃a,c=some a/\b (.ref d []) [(d,h a)]
 |.no=>False
def En {tt:List (TypeId×ai)} {R:ao->List (Nat×aH)->Prop} (a:(iW tt k e F b N).K R):(e6 tt k e F b N).K R:=by
 unfold iW at a;split at a
 ·rename_i N r m j am;simp only[e6];split at a
  case h_2=>exact a.elim
  rename_i q m U j i W;simp only[i,W];split at a
  ·rename_i z;subst z;split at a
   ·simp only[ke,if_true];exact⟨_,⟨trivial,rfl⟩,a⟩
   ·simp only[ke,if_true];exact⟨_,⟨trivial,rfl⟩,a⟩
   ·simp only[ke,if_true];exact⟨_,⟨trivial,rfl⟩,a⟩
   ·obtain⟨x,g,f⟩:=a;unfold gk at g;split at g
    ·rename_i c;cases g;simp only[ke,if_true];exact⟨_,⟨c,rfl⟩,f⟩
    cases g
   ·obtain⟨x,g,f⟩:=a;unfold fS at g;split at g
    ·rename_i c;cases g;simp only[ke,if_true];exact⟨_,⟨c,rfl⟩,f⟩
    cases g
   ·obtain⟨x,g,f⟩:=a;unfold gn at g;split at g
    ·rename_i c;cases g;exact⟨_,⟨c,rfl⟩,f⟩
    cases g
   ·obtain⟨x,g,f⟩:=a;unfold da at g;split at g
    ·rename_i c;cases g;exact⟨_,⟨c,rfl⟩,f⟩
    cases g
   ·simp only[ke,if_true];exact⟨_,⟨trivial,rfl⟩,a⟩
   ·simp only[ke,if_true];exact⟨_,⟨trivial,rfl⟩,a⟩
   ·simp only[ke,if_true];exact⟨_,⟨trivial,rfl⟩,a⟩
   ·simp only[ke,if_true];exact⟨_,⟨trivial,rfl⟩,a⟩
   exact a.elim
  split at a
  ·obtain⟨x,g,f⟩:=a;unfold gn at g;split at g
   ·rename_i c;cases g;exact⟨_,⟨c,rfl⟩,f⟩
   cases g
  ·obtain⟨x,g,f⟩:=a;unfold da at g;split at g
   ·rename_i c;cases g;exact⟨_,⟨c,rfl⟩,f⟩
   cases g
  exact a.elim
 ·rename_i r m;simp only[e6];split at a
  case h_2=>exact a.elim
  rename_i q m i;rw[i];exact⟨_,rfl,a⟩
 ·rename_i V z m;simp only[e6,zt];split at a
  case h_2=>exact a.elim
  rename_i U q ap m al o i;rw[al,o,i];exact⟨_,rfl,a⟩
 ·rename_i m;simp only[e6,sN];split at a
  case h_2=>exact a.elim
  rename_i G h m i;rw[i];obtain⟨j,rfl,f⟩:=a;exact⟨j,rfl,f⟩
 ·rename_i r m T;simp only[e6,sx];split at a
  case h_2=>exact a.elim
  rename_i l q T al o;rw[al,o];simp only;split at a
  ·rename_i G h E i;rw[i];simp only;cases d:a1 l h with
   |false=>rw[d] at a;exact a.elim
   |true=>
   rw[d] at a;obtain⟨j,c,f⟩:=a;exact⟨j,c,f⟩
  ·rename_i id B i;rw[i];simp only;split at a
   case h_2=>exact a.elim
   rename_i t n;rw[n];simp only;split at a
   case h_2=>exact a.elim
   rename_i h p;rw[p];simp only;cases d:a1 l h with
   |false=>rw[d] at a;exact a.elim
   |true=>
   rw[d] at a;obtain⟨j,c,f⟩:=a;obtain⟨E,P,c⟩:=bZ.1 c;obtain⟨u,v⟩:=JK c;exact⟨(E,j),⟨g5 P,u,v⟩,f⟩
  ·rename_i id Z X i;rw[i];simp only;split at a
   case h_2=>exact a.elim
   rename_i t n;obtain⟨a3,m⟩:=t;rw[n];simp only at a|-;split at a
   case h_2=>exact a.elim
   rename_i h;simp only[dF];cases d:a1 l h with
   |false=>rw[d] at a;exact a.elim
   |true=>
   rw[d] at a;obtain⟨q,Y,f⟩:=a;obtain⟨u,v⟩:=JK Y;exact⟨(m,q),⟨⟨rfl,rfl⟩,u,v⟩,f⟩
  exact a.elim
 ·rename_i r m;simp only[e6,sD];split at a
  case h_2=>exact a.elim
  rename_i l al;rw[al];simp only;split at a
  ·rename_i id B i;rw[i];simp only;split at a
   case h_2=>exact a.elim
   rename_i t n;rw[n];simp only;split at a
   case h_2=>exact a.elim
   rename_i h p;rw[p];simp only[s2];cases d:(a1 l h&&h.pure) with
   |false=>rw[d] at a;exact a.elim
   |true=>
   rw[d] at a;simp only[bc] at d;rw[d.1,d.2];obtain⟨j,c,f⟩:=a;exact⟨j,g5 c,f⟩
  ·rename_i id B i;rw[i];simp only;split at a
   case h_2=>exact a.elim
   rename_i t n;rw[n];simp only;split at a
   case h_2=>exact a.elim
   rename_i h p;rw[p];simp only[s2];cases d:(a1 l h&&h.pure) with
   |false=>rw[d] at a;exact a.elim
   |true=>
   rw[d] at a;simp only[bc] at d;rw[d.1,d.2];obtain⟨j,c,f⟩:=a;exact⟨j,g5 c,f⟩
  ·rename_i G h m i;rw[i];cases d:a1 l h with
   |false=>rw[d] at a;exact a.elim
   |true=>
   rw[d] at a;obtain⟨j,rfl,f⟩:=a;simp only[d,cond_true];exact f
  exact a.elim
 ·rename_i r m Q;simp only[e6,sq];split at a
  case h_2=>exact a.elim
  rename_i l G h m al i;rw[al,i];cases d:(a1 l h&&(dP h Q).isSome) with
  |false=>rw[d] at a;exact a.elim
  |true=>
  rw[d] at a;simp only[bc] at d;obtain⟨j,rfl,f⟩:=a;obtain⟨a0,S⟩:=Ji (y:=j) d.2;simp only[S] at f;simp only[d.1,cond_true,S];exact f
 ·rename_i r m Z X;simp only[e6,s9];split at a
  case h_2=>exact a.elim
  rename_i l al;rw[al];simp only;split at a
  ·rename_i G h E i;rw[i];simp only;cases d:a1 l h with
   |false=>rw[d] at a;exact a.elim
   |true=>
   rw[d] at a;obtain⟨j,c,f⟩:=a;obtain⟨w,M,c⟩:=bZ.1 c;obtain⟨z,L,c⟩:=bZ.1 c;obtain⟨ad,O,rfl⟩:=dY.1 c;obtain⟨u,v⟩:=J1 O;exact⟨(w,z),⟨zk M,zk L,u,v⟩,f⟩
  ·rename_i id B i;rw[i];simp only;split at a
   case h_2=>exact a.elim
   rename_i t n;rw[n];simp only;split at a
   case h_2=>exact a.elim
   rename_i h p;rw[p];simp only;cases d:a1 l h with
   |false=>rw[d] at a;exact a.elim
   |true=>
   rw[d] at a;obtain⟨j,c,f⟩:=a;obtain⟨E,P,c⟩:=bZ.1 c;obtain⟨w,M,c⟩:=bZ.1 c;obtain⟨z,L,c⟩:=bZ.1 c;obtain⟨ad,O,c⟩:=bZ.1 c;obtain⟨e0,an,rfl⟩:=dY.1 c;obtain⟨u,v⟩:=J1 O;exact⟨(E,w,z),⟨g5 P,zk M,zk L,u,v⟩,f⟩
  exact a.elim
 ·rename_i r w C;simp only[e6,sH];split at a
  case h_2=>exact a.elim
  rename_i l h al o s;rw[al,o,s];simp only;split at a
  case h_2=>exact a.elim
  rename_i x q w U C A D I;rw[A,D,I];simp only;cases d:(a1 l h&&Nat.ble h.size 2000) with
  |false=>rw[d] at a;exact a.elim
  |true=>
  rw[d] at a;obtain⟨j,c,f⟩:=a;unfold dI at c;split at c
  ·rename_i J;cases c;exact⟨(w.toNat,C.toNat),⟨(Int.toNat_of_nonneg J.1).symm,(Int.toNat_of_nonneg (Int.le_trans J.1 J.2.1)).symm,by show w.toNat<=C.toNat;omega,by show C.toNat<=e7;omega⟩,f⟩
  cases c
 ·rename_i r m T;simp only[e6,CF];split at a
  ·rename_i V q Q al o s;rw[al,o,s];obtain⟨H,d,f⟩:=a;exact⟨H,d,f⟩
  ·rename_i V q Q al o s;rw[al,o,s];obtain⟨H,d,f⟩:=a;exact⟨H,d,f⟩
  exact a.elim
 ·rename_i r m q av;simp only[e6,sE];split at a
  case h_2=>exact a.elim
  rename_i l id B q al o s;rw[al,o,s];simp only;split at a
  case h_2=>exact a.elim
  rename_i t n;rw[n];simp only;split at a
  case h_2=>exact a.elim
  rename_i h p;rw[p];simp only;split at a
  case h_2=>exact a.elim
  rename_i x g;rw[g];simp only;cases d:a1 l h with
  |false=>rw[d] at a;exact a.elim
  |true=>
  rw[d] at a;obtain⟨j,c,f⟩:=a;exact⟨j,g5 c,f⟩
 ·rename_i C;simp only[e6];split at a
  ·rename_i m r al o s;rw[al,o,s];simp only;split at a
   ·rename_i l id B A D;rw[A,D];simp only[sC,A];split at a
    case h_2=>exact a.elim
    rename_i t n;rw[n];simp only;split at a
    case h_2=>exact a.elim
    rename_i h p;rw[p];obtain⟨j,c,f⟩:=a;exact⟨j,g5 c,f⟩
   ·rename_i id B A D;rw[A,D];simp only[sK];split at a
    case h_2=>exact a.elim
    rename_i l t I n;rw[I,n];simp only;split at a
    case h_2=>exact a.elim
    rename_i h p;rw[p];obtain⟨j,c,f⟩:=a;exact⟨j,g5 c,f⟩
   exact a.elim
  exact a.elim
 exact a.elim
def hL {e:Type} (c d:List e) (a b:Nat):List e:=c.take a++(d.take (b-a)++c.drop (a+min d.length (b-a)))
end
section
def xv:ao->Bool
 |.val _ _=>true
 |_=>false
def E0:ao->Bool
 |.val _ _=>true
 |.df _ a=>a.all xv
 |_=>false
def E1 (b:E0 d=true):∀id∈d.ids,False:=by
 intro id a;cases d with
 |val g f=>simp[ao.ids] at a
 |df h c=>
  have b:c.all xv=true:=b;have:∀c:List ao,c.all xv=true->∀id∈ao.mu c,False:=by
   intro c
   induction c with
   |nil=>intro _ id a;simp[ao.mu] at a
   |cons d c e=>
    intro b id a;simp only[ru,bc] at b;simp only[ao.mu,dX] at a;rcases a with a|a
    ·cases d with
     |val g f=>simp[ao.ids] at a
     |_=>cases b.1
    exact e b.2 id a
  exact this c b id a
 |_=>cases b
def nL (C:dn) (c:List (Nat×ao)):Prop:=
 (∀a,C.I0 a\/C.B a->a<C.w0.heap.size/\¬C.F0 a)/\
 ∀b∈c,b.1∈C.pin/\E0 b.2=true/\bC (ba C.I0 C.B) C.w0 [] (λ_=>[]) (λ_=>[]) b.2 (C.vs b.1)
section
variable {E:dR} {C:dn}
def nL.nil (b:∀a,C.I0 a\/C.B a->a<C.w0.heap.size/\¬C.F0 a):nL C []:=⟨b,λc b=>by cases b⟩
def RE (b c:List (Nat×ao)) (a:Nat):gt (b++c) a=match au b a with|some d=>d|none=>gt c a:=by unfold gt;rw[iB];cases au b a<;>rfl
def xC {e:Type}:∀{c:List (Nat×e)} {b:Nat} {d:e},au c b=some d->(b,d)∈c
 |[],_,_,a=>by cases a
 |(g,v0)::c,b,d,a=>by
  rw[bU] at a;split at a
  ·rename_i f;cases a;subst f;exact jE ..
  exact e1 _ (xC a)
def e3.kg (f:nL C D) {j:acZ} (n:e3 C i j v):e3 C ⟨D++i.g,i.h⟩ j v:=by
 obtain⟨k,w,m,b⟩:=n;refine⟨k,w,m,{b with tmp:=λc=>?_}⟩;show bC _ _ _ _ _ (gt (D++i.g) c) _;rw[RE];split
 ·rename_i l s;obtain⟨o,p,d⟩:=f.2 _ (xC s);have d:bC (ba C.I0 C.B) C.w0 [] (λ_=>[]) (λ_=>[]) l (C.vs c):=d;rw[b.pin c o];refine d.qX (λt a e=>?_) (λid r=>(E1 p id r).elim);have q:C.I0 a\/C.B a:=lM e;obtain⟨aw,u⟩:=f.1 a q;refine⟨?_,bN.of_heap (b.frame a aw u)⟩;cases t
  ·exact b.i0 a e
  exact e.imp (b.i0 a) id
 exact b.tmp c
def J.kg {d:List (Nat×ao)} (k:nL C d) {c:Code} {a:aO} {b:Exit->aO->Prop} (f:J E C c ⟨d++a.g,a.h⟩ b):J E C c a b:=
 λe l i j=>f e l (i.kg k) j
def qK (a:List (Nat×ao)):ac7->Option (List (Nat×ao))
 |[]=>some []
 |k::c=>match gt a k with
  |.val g f=>(qK a c).map λb=>(k,.val g f)::b
  |.df e d=>bif d.all xv then(qK a c).map λb=>(k,.df e d)::b else none
  |_=>none
def EV {l:List (Nat×ao)}:∀{j:ac7} {d:List (Nat×ao)},qK l j=some d->∀c∈d,c.1∈j/\E0 c.2=true/\gt l c.1=c.2
 |[],d,a,c,b=>by cases a;cases b
 |k::j,d,a,c,b=>by
  simp only[qK] at a;split at a
  ·rename_i q p i;obtain⟨n,h,rfl⟩:=dY.1 a;rcases dg.1 b with rfl|b
   ·exact⟨jE ..,rfl,i⟩
   obtain⟨e,f⟩:=EV h c b;exact⟨e1 _ e,f⟩
  ·rename_i o m i;cases g:m.all xv with
   |false=>rw[g] at a;cases a
   |true=>
   rw[g] at a;obtain⟨n,h,rfl⟩:=dY.1 a;rcases dg.1 b with rfl|b
   ·exact⟨jE ..,g,i⟩
   obtain⟨e,f⟩:=EV h c b;exact⟨e1 _ e,f⟩
  cases a
def J.keep {N:Code} {L:List (Nat×ao)} {M:Exit->aO->Prop} (r:nL C D) (ap:qK i.g f=some L) (d:∀l:dn,l.n=C.n->l.pin=f++C.pin->nL l (L++D)->(∀u,rF C u->rF l u)->(jy E C.I0 C.w0->jy E l.I0 l.w0)->J E l N i M):J E C N i M:=by
 rintro v y ⟨z,P,A,b⟩ Z
 let l:dn:={I0:=z,B:=C.B,F0:=λa=>∃id e,au i.h id=some e/\a∈A id,w0:=y,n:=C.n,pin:=f++C.pin,vs:=λq=>v.tmps.getD q undef}
 have X:br l i v.tmps y z P A:=
  {n:=b.n,i0:=λ_ d=>d,i1:=λ_ d=>.inl d,ib:=b.ib,tree:=λid e k=>⟨(b.tree id e k).1,(b.tree id e k).2.1,λa c=>⟨((b.tree id e k).2.2 a c).1,((b.tree id e k).2.2 a c).2.1,((b.tree id e k).2.2 a c).2.2.1,.inr ⟨id,e,k,c⟩⟩⟩,dis:=b.dis,tmp:=b.tmp,frame:=λ_ _ _=>rfl,evo:=λ_ _=>.refl _ _,size:=a6 _,os:=rfl,tape:=rfl,output:=rfl,pin:=λq _=>rfl}
 have an:nL l (L++D):=by
  refine⟨λa c=>⟨b.ib a c,?_⟩,λx p=>?_⟩
  ·rintro⟨id,e,k,Y⟩;obtain⟨aw,t,_⟩:=(b.tree id e k).2.2 a Y;exact c.elim aw t
  rcases dX.1 p with p|p
  ·obtain⟨m,o,F⟩:=EV ap x p;refine⟨dX.2 (.inl m),o,?_⟩;have:=b.tmp x.1;rw[F] at this;exact this.qX (λO a s=>⟨s,bN.refl _ _⟩) (λid H=>(E1 o id H).elim)
  obtain⟨m,o,F⟩:=r.2 x p;refine⟨dX.2 (.inr m),o,?_⟩;show bC _ _ _ _ _ _ (v.tmps.getD x.1 undef);rw[b.pin _ m];refine F.qX (λO a s=>?_) (λid H=>(E1 o id H).elim);obtain⟨aw,t⟩:=r.1 a (lM s);refine⟨?_,bN.of_heap (b.frame a aw t)⟩;cases O
  ·exact b.i0 a s
  exact s.imp (b.i0 a) id
 have a0:∀u,rF C u->rF l u:=by
  rintro(_|⟨q,d1,d2⟩) av
  ·trivial
  obtain⟨Q,R,a,K,dl,ci,S,T,co,cs⟩:=av;refine⟨kU _ Q,λw I=>kU _ (R w I),a,K,dl,(b.pin q Q).trans ci,gM S b.size,?_,?_,?_⟩
  ·rintro⟨id,e,k,c⟩;rcases((b.tree id e k).2.2 a c).2.2.2 with m|m
   ·omega
   exact T m
  ·have c:=b.frame a S T;rw[<-co];unfold World.cell?;rw[show y.heap[(⟨a,K,none⟩:Addr).block]?=C.w0.heap[(⟨a,K,none⟩:Addr).block]? from c]
  rw[cs];exact hZ λw I=>(b.pin w (R w I)).symm
 refine wp_mono (d l rfl rfl an a0 (λW=>b.glob r.1 W) v y ⟨z,P,A,X⟩ Z) ?_;rintro d0 ds d3 ⟨cv,p,⟨U,ce,V,j⟩,ad⟩;have G:∀a,l.F0 a->C.w0.heap.size<=a\/C.F0 a:=(by rintro a ⟨id,e,k,c⟩;exact((b.tree id e k).2.2 a c).2.2.2);refine⟨cv,p,⟨U,ce,V,?_⟩,ad⟩;refine{n:=j.n,i0:=λa c=>j.i0 a (b.i0 a c),i1:=λa c=>?_,ib:=j.ib,tree:=λid e k=>?_,dis:=j.dis,tmp:=j.tmp,frame:=λa m o=>?_,evo:=λa c=>(b.evo a c).trans (j.evo a (gM c b.size)),size:=db b.size j.size,os:=j.os.trans b.os,tape:=j.tape.trans b.tape,output:=j.output.trans b.output,pin:=λq r=>?_}
 ·rcases j.i1 a c with d|d|d
  ·exact b.i1 a d
  ·exact .inr (.inl (db b.size d))
  exact .inr (G a d)
 ·obtain⟨aw,t,a3⟩:=j.tree id e k;refine⟨aw,t,λa c=>?_⟩;obtain⟨a4,bl,bs,aK⟩:=a3 a c;refine⟨a4,bl,bs,?_⟩;rcases aK with d|d
  ·exact .inl (db b.size d)
  exact G a d
 ·refine(j.frame a (gM m b.size) ?_).trans (b.frame a m o);intro am;rcases G a am with d|d
  ·omega
  exact o d
 rw[j.pin q (dX.2 (.inr r))];exact b.pin q r
end
end
structure bm where
 d:Option (Nat×ao)
 S:ac7
 keep:List (Nat×List aW)
 put:List (Nat×aH)
variable{p:bm}
def lK (a:ac7) (c:List (Nat×List aW)) (b:List (Nat×ao)):List (Nat×ao):=match a with
 |[]=>b
 |_=>kill a c b
def pi (a:ac7) (b:List (Nat×aH)):List (Nat×aH):=match a with
 |[]=>b
 |_=>del a b
def bm.app (a:bm) (b:aO):aO:=⟨match a.d with
 |some c=>c::lK a.S a.keep b.g
 |none=>lK a.S a.keep b.g,a.put++pi a.S b.h⟩
def Sa (d:List (Nat×List aW)) (a:ao):ef [] d a=a:=by
 have b:∀a,dr [] d a=a:=λa=>(by have:(a.ids.any λc=>c9 c [])=false:=(by rw[tw];intro c _;simp[c9]);simp only[dr,ao.dK,this,Bool.false_and,cond_false]);cases a with
 |dv e=>simp only[ef,hZ (λa _=>b a),List.map_id']
 |_=>exact b _
def JV (c:List (Nat×List aW)):∀b:List (Nat×ao),kill [] c b=b
 |[]=>rfl
 |(k,a)::b=>by have:=JV c b;simp only[kill,eo,Sa] at this|-;rw[this]
def IG:∀a:List (Nat×aH),del [] a=a
 |[]=>rfl
 |x::a=>by have:=IG a;simp only[del] at this|-;rw[jD,aj (by simp[c9]),this]
def om (a:ac7) (c:List (Nat×List aW)) (b:List (Nat×ao)):lK a c b=kill a c b:=by
 cases a
 ·exact(JV c b).symm
 rfl
def sd (a:ac7) (b:List (Nat×aH)):pi a b=del a b:=by
 cases a
 ·exact(IG b).symm
 rfl
def pN {k:Type} (tt:List (TypeId×ai)) (f:List (Nat×aH)) (m:TypeId) (q v:ao) (e:bm->Option k):Option k:=
 match pF f q with
 |none=>none
 |some (
  id,p)=>match au f id,au tt m with
  |some a,some o=>match dF a.1 p with
   |none=>none
   |some b=>bif a1 o b then match v with
    |.ref c g=>match au f c with
     |some l=>bif Nat.beq id c then none else(gg l.1 l.2 g b).bind λh=>(kJ a.1 a.2 p b h).bind λd=>e ⟨none,[id,c],[(id,p)],[(id,⟨a.1,d⟩)]⟩
     |none=>none
    |.app c g i j n=>match gv (τ:=.osl i) b j with
     |some _=>bif Nat.beq c id&&j0 g p then(gg a.1 a.2 p (.osl i)).bind λr=>(kJ a.1 a.2 p (.osl i) (r++j)).bind λd=>e ⟨none,id::n,[(id,p)],[(id,⟨a.1,d⟩)]⟩ else none
     |none=>none
    |v=>match coe b v with
     |some h=>(kJ a.1 a.2 p b h).bind λd=>e ⟨none,[id],[(id,p)],[(id,⟨a.1,d⟩)]⟩
     |none=>none
   else none
  |_,_=>none
def Yi {s:a} {o:bm->Option a} {tt:List (TypeId×ai)} (b:pN tt i.h c t d o=some s) (m:∀p,o p=some s->u (p.app i)):(CE tt i c t d).K u:=by
 unfold pN at b;unfold CE;split at b
 ·cases b
 rename_i id F A;rw[A];simp only;split at b
 case h_2=>cases b
 rename_i L G B z;obtain⟨O,N⟩:=L;rw[B,z];simp only at b|-;split at b
 ·cases b
 rename_i I E;rw[E];simp only;cases q:a1 G I with
 |false=>rw[q] at b;cases b
 |true=>
 rw[q] at b;simp only[cond_true] at b|-;split at b
 ·rename_i f g;split at b
  case h_2=>cases b
  rename_i J C;obtain⟨P,M⟩:=J;cases e:Nat.beq id f with
  |true=>rw[e] at b;cases b
  |false=>
  rw[e] at b;obtain⟨n,j,b⟩:=bZ.1 b;obtain⟨l,k,b⟩:=bZ.1 b;simp only[C,e,cond_false];exact⟨(n,l),⟨g5 j,lg k⟩,m _ b⟩
 ·rename_i f g w v r;split at b
  case h_2=>cases b
  rename_i n j;cases iR j;cases e:(Nat.beq f id&&j0 g F) with
  |false=>rw[e] at b;cases b
  |true=>
  rw[e] at b;simp only[bc] at e;obtain⟨H,D,b⟩:=bZ.1 b;obtain⟨l,k,b⟩:=bZ.1 b;simp only[dif_pos];exact⟨(H,l),⟨ep e.1,j0.ok e.2,g5 D,lg k⟩,m _ b⟩
 rename_i d x y;split at b
 case h_2=>cases b
 rename_i n j;obtain⟨l,k,b⟩:=bZ.1 b;split
 ·rename_i f g;exact(x f g rfl).elim
 ·rename_i f g w v r;exact(y f g w v r rfl).elim
 rw[j];exact⟨l,lg k,m _ b⟩
def jw (e:List (Nat×aH)) (a:ai) (i:ao):Option (List a.den):=
 match i with
 |.val (.a5 _ h) d=>gv (τ:=.osl h) (.osl a) d
 |.bQ (.slice none 0 0)=>some []
 |.ref id c=>match au e id with
  |some b=>bif a.pure then gg b.1 b.2 c (.osl a) else none
  |none=>none
 |.view id c g f=>match au e id with
  |some b=>bif a.pure then(gg b.1 b.2 c (.osl a)).bind λd=>some ((d.take f).drop g) else none
  |none=>none
 |_=>none
def kc.C3 {c:ai} (e:kc c) (b:List c.den):Prop:=
 match e with
 |.du f=>f=b
 |.part _ g d=>∃a,g a/\d a=b
 |.bad=>False
def yE {f:List n.den} (a:jw e n d=some f):(pU e n d).C3 f:=by
 unfold jw at a;unfold pU;split at a
 ·rename_i p q h;cases iR a;simp only[dif_pos];rfl
 ·cases a;rfl
 ·rename_i id j;split at a
  case h_2=>cases a
  rename_i g c;obtain⟨l,k⟩:=g;simp only[c];cases b:n.pure with
  |false=>rw[b] at a;cases a
  |true=>rw[b] at a;exact⟨f,g5 a,rfl⟩
 ·rename_i id j o m;split at a
  case h_2=>cases a
  rename_i g c;obtain⟨l,k⟩:=g;simp only[c];cases b:n.pure with
  |false=>rw[b] at a;cases a
  |true=>
   rw[b] at a;obtain⟨h,i,a⟩:=bZ.1 a;cases a;exact⟨h,g5 i,rfl⟩
 cases a
def kc.C3.to {d:ai} {c:kc d} {a:List d.den} (b:c.C3 a) {g:Nat->Prop} {f:List d.den->aO} {e:aO->Prop} (h:g a.length) (i:e (f a)):(c.to g f).K e:=by
 cases c with
 |du l=>obtain rfl:l=a:=b;exact⟨(),h,i⟩
 |part n o m=>obtain⟨k,j,rfl⟩:=b;exact⟨k,⟨j,h⟩,i⟩
 |bad=>exact b.elim
def mY {n:Type} (tt:List (TypeId×ai)) (p:List (Nat×ai)) (d:List (Nat×aH)) (b:Nat) (o:TypeId) (q g:ao) (f:bm->Option n):Option n:=
 match eX tt o with
 |none=>none
 |some i=>
  match q with
  |.ref id []=>match au d id with
   |some ⟨.osl a,e⟩=>bif a1 i a&&Nat.ble a.size 1300 then
    match a.pure with
    |true=>(jw d a g).bind λc=>(bJ (e.length+c.length)).bind λ_=>f ⟨some (b,.ref b []),[id,b],[],[(b,⟨.osl a,e++c⟩)]⟩
    |false=>match g with
     |.ref k []=>match au d k with
      |some r=>match gv (.osl a) r.2 with
       |some c=>bif Nat.beq id k then none else(bJ (e.length+List.length (α:=a.den) c)).bind λ_=>f ⟨some (b,.ref b []),[id,k,b],[],[(b,⟨.osl a,List.append (α:=a.den) e c⟩)]⟩
       |none=>none
      |none=>none
     |_=>none
    else none
   |_=>none
  |.ref id h=>match au d id,au d b with
   |some j,none=>match dF j.1 h with
    |some (.osl a)=>bif a1 i a&&Nat.ble a.size 1300&&a.il then
     (gg j.1 j.2 h (.osl a)).bind λe=>(jw d a g).bind λc=>(bJ (List.length (α:=a.den) e+c.length)).bind λ_=>
      f ⟨some (b,.app id h a c [b]),[id],[(id,h),(id,[])],[(b,⟨.c6,()⟩),(id,j)]⟩
     else none
    |_=>none
   |_,_=>none
  |.view id [] m l=>match au d id with
   |some ⟨.osl a,e⟩=>bif a1 i a&&Nat.ble a.size 1300 then
    (jw d a g).bind λc=>(bJ (List.length (α:=a.den) ((e.take l).drop m)+c.length)).bind λ_=>f ⟨some (b,.ref b []),[id,b],[],[(b,⟨.osl a,(e.take l).drop m++c⟩)]⟩
    else none
   |_=>none
  |.bQ (.slice none 0 0)=>match au p b with
   |some (.osl a)=>bif a1 i a&&Nat.ble a.size 1300 then
    (jw d a g).bind λc=>(bJ c.length).bind λ_=>f ⟨some (b,.ref b []),[b],[],[(b,⟨.osl a,c⟩)]⟩
    else none
   |_=>none
  |_=>none
def O8 {A:a} {x:bm->Option a} {tt:List (TypeId×ai)} (e:mY tt k i.h b c d t x=some A) (m:∀y,x y=some A->u (y.app i)):(zd tt k i b c d t).K u:=by
 unfold mY at e;unfold zd;split at e
 ·cases e
 rename_i s F;rw[F];simp only;split at e
 ·rename_i id;simp only;split at e
  case h_2=>cases e
  rename_i l v o;rw[o];simp only;cases g:(a1 s l&&Nat.ble l.size 1300) with
  |false=>rw[g] at e;cases e
  |true=>
  rw[g] at e;simp only[cond_true] at e|-;split at e
  ·rename_i n;rw[n];obtain⟨q,f,e⟩:=bZ.1 e;obtain⟨_,j,e⟩:=bZ.1 e;exact(yE f).to (uU j) (m _ e)
  rename_i n;rw[n];split at e
  case h_2=>cases e
  rename_i H;split at e
  case h_2=>cases e
  rename_i M E;obtain⟨V,R⟩:=M;split at e
  case h_2=>cases e
  rename_i q f;cases iR f;cases w:Nat.beq id H with
  |true=>rw[w] at e;cases e
  |false=>
  rw[w] at e;obtain⟨_,j,e⟩:=bZ.1 e;simp only[E,dif_pos,w,cond_false];exact⟨(),uU j,m _ e⟩
 ·rename_i id z n;split at e
  case h_2=>cases e
  rename_i L o D;obtain⟨U,S⟩:=L;simp only at e;split at e
  case h_2=>cases e
  rename_i l G;cases g:(a1 s l&&Nat.ble l.size 1300&&l.il) with
  |false=>rw[g] at e;cases e
  |true=>
  rw[g] at e;obtain⟨v,r,e⟩:=bZ.1 e;obtain⟨q,f,e⟩:=bZ.1 e;obtain⟨_,j,e⟩:=bZ.1 e;have j:=uU j;have f:=yE f;have r:=g5 r;cases z with
  |nil=>exact(n rfl).elim
  |cons Q z=>
  simp only[o,D,G,g,cond_true];split
  ·rename_i J p;rw[p] at f;obtain rfl:J=q:=f;exact⟨v,⟨r,j⟩,m _ e⟩
  ·rename_i T W N p;rw[p] at f;obtain⟨I,B,rfl⟩:=f;exact⟨(v,I),⟨r,B,j⟩,m _ e⟩
  rename_i p;rw[p] at f;exact f.elim
 ·rename_i id P O;simp only;split at e
  case h_2=>cases e
  rename_i l v o;rw[o];simp only;cases g:(a1 s l&&Nat.ble l.size 1300) with
  |false=>rw[g] at e;cases e
  |true=>
  rw[g] at e;simp only[cond_true] at e|-;obtain⟨q,f,e⟩:=bZ.1 e;obtain⟨_,j,e⟩:=bZ.1 e;exact(yE f).to (uU j) (m _ e)
 ·simp only;split at e
  case h_2=>cases e
  rename_i l C;rw[C];simp only;cases g:(a1 s l&&Nat.ble l.size 1300) with
  |false=>rw[g] at e;cases e
  |true=>
  rw[g] at e;simp only[cond_true] at e|-;obtain⟨q,f,e⟩:=bZ.1 e;obtain⟨_,j,e⟩:=bZ.1 e;exact(yE f).to (uU j) (m _ e)
 cases e
def n4 (d:List (Nat×ai)) (c:List (Nat×aH)) (a:Nat) (h:ao):Option bm:=
 match h with
 |.ref id []=>match au c id with
  |some b=>some ⟨some (a,.ref a []),[id,a],[],[(a,b)]⟩
  |none=>none
 |.ref id g=>bif Nat.beq id a then none else some ⟨some (a,.ref id g),[a],[],[]⟩
 |.view id [] f e=>match au c id with
  |some ⟨.osl b,i⟩=>some ⟨some (a,.ref a []),[id,a],[],[(a,⟨.osl b,(i.take e).drop f⟩)]⟩
  |_=>none
 |.bQ (.slice none 0 0)=>match au d a with
  |some (.osl b)=>some ⟨some (a,.ref a []),[a],[],[(a,⟨.osl b,[]⟩)]⟩
  |_=>none
 |_=>none
def Pk (a:n4 k i.h b d=some p) (e:u (p.app i)):(zf k i b d).K u:=by
 unfold n4 at a;unfold zf;split at a
 ·split at a
  ·rename_i j c;cases a;simp only[c];exact e
  cases a
 ·rename_i id g l;cases f:Nat.beq id b with
  |true=>rw[f] at a;cases a
  |false=>
  rw[f] at a;cases a;cases g with
  |nil=>exact(l rfl).elim
  |cons m g=>simp only[f,cond_false];exact e
 ·split at a
  ·rename_i j n c;cases a;simp only[c];exact e
  cases a
 ·split at a
  ·rename_i j c;cases a;simp only[c];exact e
  cases a
 cases a
section
section
variable {E:dR} {C:dn} {st:aO} {a:Act} {w w':World} {I:Nat->Prop} {rt:Nat->ac1} {fp:Nat->ac7} {o:Oper} {Q:aO->Prop}
def dk.own {S:ac7} {t:aH} {cs:ac1} {f:ac7} {v:Value} {next:Act->World->Prop} {u:Exit->Act->World->Prop} (A:o.dst=some b) (F:C.ok b) (m:br C st a.tmps w I rt fp) (J:∀r l w',Q r->l.defers=a.defers->e3 C r l.tmps w'->next l w') (D:b∈S\/au st.h b=none) (M:(execOp a.eval o).run E.P w=.ok (.value v) w') (e:gq w w') (N:v=bG t.1 cs) (L:aP (ba I C.B) w' t.1 cs t.2 f) (G:f.Nodup) (j:∀c∈f,(w.heap.size<=c/\c<w'.heap.size)\/∃q∈S,∃R,au st.h q=some R/\c∈fp q) (K:Q ⟨(b,.ref b [])::kill S [] st.g,(b,t)::del S st.h⟩):o.wp E.P a w next u:=by
 have k:=m.eI (lA.one (st:=st) (C:=C) (rt:=rt) (w':=w') (I':=I) (S:=S) (d:=b) (t:=t) (cs:=cs) (f:=f) D e.size e.os e.tape e.output (λc j _=>e.heap c j) (λc j=>(bN.of_heap (e.heap c j)).2) (λ_ i=>i) (λ_ i=>.inl i) L G (λc z=>by
  rcases j c z with⟨x,y⟩|⟨p,H,s,k,n⟩
  ·exact⟨λi=>by have:=m.ib c (.inl i);omega,y,.inl x⟩
  obtain⟨aw,T,O,U⟩:=(m.tree p s k).2.2 c n;exact⟨aw,gM O e.size,.inr ⟨p,H,s,k,n⟩⟩))
 unfold Oper.wp;rw[M];show next (a.put o.dst v) w'
 rw[A];refine J _ _ _ K rfl ⟨_,_,_,k.put F (av:=.ref b []) ?_⟩;rw[N];refine .ref (t:=t) (loc:=none) (by rw[iB,bU,aj rfl];rfl) ?_;rw[BT];exact aS.here
def vf (e:List (Nat×aH)) (a:ai):ao->Option (aH×ac7)
 |.val d b=>bif a1 a d then some (⟨d,b⟩,[]) else none
 |.bQ f=>match he a f.cells.toList with
  |some b=>some (⟨a,b⟩,[])
  |none=>none
 |.ref id []=>match au e id with
  |some c=>bif a1 a c.1 then some (c,[id]) else none
  |none=>none
 |_=>none
def L2 {h:c5->Nat->Prop} (n:∀id t,au e id=some t->aP h w t.1 (rt id) t.2 (fp id)) {a:ai} (k:dC s a c) (j:bC h w e rt fp d H) {t:aH} {ids:ac7} (b:vf e a d=some (t,ids)):aP h w t.1 H.cells.toList t.2 (ids.map fp).flatten/\t.1.size=a.size/\∀id∈ids,∃r,au e id=some r:=by
 unfold vf at b;split at b
 ·rename_i v u;cases f:a1 a v with
  |false=>rw[f] at b;cases b
  |true=>
   rw[f] at b;cases b;cases j with|val g=>
   rw[nv (k.lay f) g.len g.one];exact⟨g,(a1.size f).symm,ab⟩
 ·rename_i y;split at b
  ·rename_i u p;cases b;cases j;exact⟨oa p,rfl,ab⟩
  cases b
 ·rename_i id;split at b
  ·rename_i q i;cases f:a1 a q.1 with
   |false=>rw[f] at b;cases b
   |true=>
    rw[f] at b;cases b;cases j with|ref m o=>
    rw[i] at m;cases m;obtain⟨rfl,rfl,rfl⟩:=aS.eQ.1 o;have g:=n id _ i;rw[nv (k.lay f) g.len g.one];refine⟨by simpa using g,(a1.size f).symm,?_⟩;intro x l;rw[ed] at l;subst l;exact⟨_,i⟩
  cases b
 cases b
def k6 (e:List (Nat×aH)) (d:Operand->ao) (g:List (Nat×Operand)):ai->Nat->Option (aH×ac7)
 |.pr a h,f=>
  match(match kj g f with
   |none=>match ko a with
    |some i=>some ((⟨a,i⟩:aH),([]:ac7))
    |none=>none
   |some b=>vf e a (d b)),k6 e d g h (f+1) with
  |some b,some c=>some (⟨.pr b.1.1 c.1.1,(b.1.2,c.1.2)⟩,b.2++c.2)
  |_,_=>none
 |.nil,_=>some (⟨.nil,()⟩,[])
 |_,_=>none
def Ko {F:Program} {g:c5->Nat->Prop} {b:List (Nat×aH)} (B:∀id t,au b id=some t->aP g w t.1 (rt id) t.2 (fp id)) {v:Operand->ao} {l:Operand->Value} (A:∀c,bC g w b rt fp (v c) (l c)) {parts:List (Nat×Operand)} {cells:ac1}:∀{u:ai} {n:Nat} {G:List Field} {off:Nat} {zs:ac1} {t:aH} {ids:ac7},ha F u G off zs->k6 b v parts u n=some (t,ids)->cells.length=off+u.size->(∀d r e,dP u d=some (r,e)->(∀c,kj parts (n+d)=some c->(l c).cells.size=e.size/\(cells.drop (off+dj u d)).take e.size=(l c).cells.toList)/\(kj parts (n+d)=none->(cells.drop (off+dj u d)).take e.size=(zs.drop (dj u d)).take e.size))->aP g w t.1 (cells.drop off) t.2 (ids.map fp).flatten/\t.1.size=u.size/\∀id∈ids,∃u,au b id=some u
 |.pr a k,n,O::V,off,zs,t,ids,z,f,p,m=>by
  simp only[k6] at f;split at f
  case h_2=>cases f
  rename_i c s i J;cases f;obtain⟨P,x,Q,⟨R,W,aw,M,N⟩,H⟩:=z;have o:=m 0 _ a rfl;simp only[kv,dj,kS] at o;have j:aP g w c.1.1 ((cells.drop off).take a.size) c.1.2 (c.2.map fp).flatten/\c.1.1.size=a.size/\∀id∈c.2,∃u,au b id=some u:=by
   split at i
   ·rename_i q;split at i
    ·rename_i X K;cases i;obtain⟨S,Y,D,E,_,aK⟩:=tk x K;rw[aw] at D;cases D;rw[M] at E;cases E;rw[o.2 q,N];exact⟨aK g w,rfl,ab⟩
    cases i
   rename_i C q;obtain⟨T,L⟩:=o.1 C q;rw[L];exact L2 B x (A C) i
  have y:=Ko B A (parts:=parts) (cells:=cells) (u:=k) (n:=n+1) (off:=off+a.size) (zs:=zs.drop a.size) (t:=s.1) (ids:=s.2) H J (by rw[p];simp only[ai.size];omega) (by
   intro d r e I;have:=m (d+1) (.snd::r) e (by simp[dP,I]);simp only[dj] at this;rw[(U:n+(d+1)=n+1+d),(U:off+(a.size+dj k d)=off+a.size+dj k d)] at this;rw[nN];exact this)
  refine⟨⟨(c.2.map fp).flatten,(s.2.map fp).flatten,ab,?_,?_⟩,by simp only[ai.size];omega,?_⟩
  ·rw[j.2.1];exact j.1
  ·rw[j.2.1,nN];exact y.1
  intro id h;rcases dX.1 h with h|h
  ·exact j.2.2 id h
  exact y.2.2 id h
 |.nil,n,[],off,zs,t,ids,z,f,p,m=>by cases f;exact⟨⟨rfl,by rw[List.drop_eq_nil_iff];simp only[ai.size] at p;omega⟩,rfl,ab⟩
 |.pr _ _,_,[],_,_,_,_,b,_,_,_=>b.elim
 |.nil,_,_::_,_,_,_,_,b,_,_,_=>b.elim
 |.int _,_,_,_,_,_,_,b,_,_,_=>by cases b
 |.bool,_,_,_,_,_,_,b,_,_,_=>by cases b
 |.str,_,_,_,_,_,_,b,_,_,_=>by cases b
 |.a5 _ _,_,_,_,_,_,_,b,_,_,_=>by cases b
 |.osl _,_,_,_,_,_,_,b,_,_,_=>by cases b
 |.ptr _ _,_,_,_,_,_,_,b,_,_,_=>by cases b
 |.optr _,_,_,_,_,_,_,b,_,_,_=>by cases b
 |.st _,_,_,_,_,_,_,b,_,_,_=>by cases b
 |.c6,_,_,_,_,_,_,b,_,_,_=>by cases b
def Kp {z:Program} {h:c5->Nat->Prop} {b:List (Nat×aH)} (l:∀id t,au b id=some t->aP h w t.1 (rt id) t.2 (fp id)) {j:Operand->ao} {i:Operand->Value} (k:∀e,bC h w b rt fp (j e) (i e)) {q:List (Nat×Operand)}:∀{u:ai} {n:Nat} {B:List Field} {p:Nat} {y:ac1} {t:aH} {ids:ac7},ha z u B p y->k6 b j q u n=some (t,ids)->∀d s g,dP u d=some (s,g)->∀e,kj q (n+d)=some e->(i e).cells.size=g.size
 |.pr a A,n,J::P,p,y,t,ids,E,f,d,s,g,c,e,m=>by
  simp only[k6] at f;split at f
  case h_2=>cases f
  rename_i v x o G;obtain⟨K,C,L,⟨M,Q,aw,N,O⟩,D⟩:=E;cases d with
  |zero=>
   simp only[dP,bF,fe] at c;obtain⟨_,rfl⟩:=c;rw[kv] at m;rw[m] at o;obtain⟨H,I,_⟩:=L2 (t:=v.1) (ids:=v.2) l C (k e) o;have:=H.len;rw[I] at this;simpa using this
  |succ d=>
   simp only[dP] at c;split at c
   ·rename_i r F;simp only[bF,fe] at c;obtain⟨_,rfl⟩:=c;exact Kp l k (u:=A) (n:=n+1) (t:=x.1) (ids:=x.2) D G d r.1 r.2 F e (by rwa[(U:n+1+d=n+(d+1))])
   cases c
 |.pr _ _,_,[],_,_,_,_,b,_,_,_,_,_,_,_=>b.elim
 |.nil,_,_,_,_,_,_,_,_,_,_,_,c,_,_=>by cases c
 |.int _,_,_,_,_,_,_,b,_,_,_,_,_,_,_=>by cases b
 |.bool,_,_,_,_,_,_,b,_,_,_,_,_,_,_=>by cases b
 |.str,_,_,_,_,_,_,b,_,_,_,_,_,_,_=>by cases b
 |.a5 _ _,_,_,_,_,_,_,b,_,_,_,_,_,_,_=>by cases b
 |.osl _,_,_,_,_,_,_,b,_,_,_,_,_,_,_=>by cases b
 |.ptr _ _,_,_,_,_,_,_,b,_,_,_,_,_,_,_=>by cases b
 |.optr _,_,_,_,_,_,_,b,_,_,_,_,_,_,_=>by cases b
 |.st _,_,_,_,_,_,_,b,_,_,_,_,_,_,_=>by cases b
 |.c6,_,_,_,_,_,_,b,_,_,_,_,_,_,_=>by cases b
def PE (ce:o.op=.build c r) (D:jS E.tt c=some x) (F:a1 x n=true\/x=n) (M:kF r.toList 0=true) (C:∀e∈r.toList,Nat.blt e.1 (eP n)=true) (S:∀f l b,dP n f=some (l,b)->∀g,kj r.toList f=some g->(a.eval g).cells.size=b.size):∃i h p,ha E.P n i 0 h/\(execOp a.eval o).run E.P w=.ok (.value (.agg p)) w/\p.toList.length=n.size/\(∀f l b,dP n f=some (l,b)->(∀g,kj r.toList (0+f)=some g->(a.eval g).cells.size=b.size/\(p.toList.drop (0+dj n f)).take b.size=(a.eval g).cells.toList)/\(kj r.toList (0+f)=none->(p.toList.drop (0+dj n f)).take b.size=(h.drop (dj n f)).take b.size)):=by
 obtain⟨j,i,h,am,d6,an,ap,q,Q⟩:∃j i h,E.P.info? c=some j/\j.size=n.size/\j.zero=some (.agg h)/\E.P.underlying c=some (.struct i)/\ha E.P n i.toList 0 h.toList/\h.size=n.size:=by
  unfold jS at D;split at D
  ·rename_i em a0;cases D;obtain⟨_,j,i,h,aw,W,_,X,Y,Z,ad⟩:=E.ok c _ a0;rcases F with F|rfl
   ·have d:=a1.size F;exact⟨j,i,h,aw,by rw[<-d];exact W,X,Y,ha.lay F Z,by rw[<-d];exact ad⟩
   exact⟨j,i,h,aw,W,X,Y,Z,ad⟩
  cases D
 have H:=run_places (P:=E.P) w n i.toList 0 h.toList q;simp only[hE] at H;generalize co:((List.range (eP n)).map λm=>(dj n m,match dP n m with|some e=>e.2.size|none=>0))=J at H;have y:∀m l b,dP n m=some (l,b)->m<eP n->J.toArray[m]?=some (dj n m,b.size):=(by intro m l b d bl;rw[<-co];simp[bl,d]);obtain⟨p,d0,d1,d2,aK⟩:=xh (λj=>J.toArray[j]?) (r.toList.map λe=>(e.1,a.eval e.2)) h (by
  intro e z;obtain⟨k,v,rfl⟩:=bR.1 z;have u:k.1<eP n:=eM (C k v);obtain⟨l,b,d⟩:=pC q k.1 u;refine⟨_,_,y _ _ _ d u,S _ _ _ d k.2 ?_,by rw[Q];exact uK d⟩;exact EQ M v) (by
  rw[tC];refine(ER M).imp_of_mem ?_;intro e K z cv u ds d3 d8 d9 al N;have B:e.1<eP n:=eM (C e z);have V:K.1<eP n:=eM (C K cv);obtain⟨d4,d5,s⟩:=pC q e.1 B;obtain⟨ek,el,R⟩:=pC q K.1 V;rw[y _ _ _ s B] at al;rw[y _ _ _ R V] at N;cases al;cases N;exact .inl (sr s R u))
 have dl:p.toList.length=n.size:=(by simp[d1,Q]);refine⟨i.toList,h.toList,p,q,?_,dl,?_⟩
 ·have cs:(Array.map (λg=>(g.fst,a.eval g.snd)) r).toList=r.toList.map λe=>(e.1,a.eval e.2):=ab;have ci:(i.mapM λO=>do Pure.pure (O.offset,<-sizeOf O.type):Sem (Array c2)).run E.P w=.ok J.toArray w:=by
   rw[Array.mapM_eq_mapM_toList,Sem.run_map,H];rfl
  have I:(zeroValue c).run E.P w=.ok (.agg h) w:=(by simp[zeroValue,typeInfo,am,an]);simp only[execOp,ce,Instr.build,Sem.run_bind,I,run_underlying ap,Result.andThen_ok,ci,cs,Value.cells,d0];rfl
 intro f l b d;have a3:f<eP n:=EB d;simp only[hE];have d7:=uK d;refine⟨λg G=>?_,λG=>?_⟩
 ·have a4:=xB G;have I:=S f l b d g G;refine⟨I,?_⟩;apply gK;intro A;rcases bn A b.size with t|t
  ·obtain⟨L,T⟩:∃L,(a.eval g).cells[A]?=some L:=⟨_,vB U⟩;have:=aK (f,a.eval g) (bR.2 ⟨(f,g),a4,rfl⟩) _ _ (y _ _ _ d a3) A L T;rw[kT t,iJ];simp only[tm];rw[this,T]
  rw[fc (by simp;omega),fc (by simp;omega)]
 apply gK;intro A;rcases bn A b.size with t|t
 ·rw[kT t,kT t,iJ,iJ];simp only[tm];refine d2 _ ?_;intro e z ds d3 al;obtain⟨k,v,rfl⟩:=bR.1 z;have bs:=E7 G k v;have B:k.1<eP n:=eM (C k v);obtain⟨d4,d5,s⟩:=pC q k.1 B;rw[y _ _ _ s B] at al;cases al;rcases Nat.lt_or_gt_of_ne bs with u|av
  ·have:=sr s d u;omega
  have:=sr d s av;omega
 rw[fc (by simp;omega),fc (by simp;omega)]
def br.EE {u:acZ} (d:br C st u w I rt fp):∀{a:ac7},a.Nodup->(∀id∈a,∃b,au st.h id=some b)->(a.map fp).flatten.Nodup
 |[],_,_=>by simp
 |i::a,s,e=>by obtain⟨l,m⟩:=jd.1 s;obtain⟨b,g⟩:=e i ab;simp only[eo,ir];refine hC.2 ⟨(d.tree i b g).2.1,br.EE d m (λid q=>e id (by simp[q])),λk n x p c=>?_⟩;subst c;obtain⟨y,r,o⟩:=it.1 p;obtain⟨j,f,rfl⟩:=bR.1 r;obtain⟨v,t⟩:=e j (by simp[f]);exact d.dis i j b v g t (λc=>l (c▸f)) k n o
def Ff (a:b∈(f.map fp).flatten):∃id∈f,b∈fp id:=by obtain⟨h,e,c⟩:=it.1 a;obtain⟨g,d,rfl⟩:=bR.1 e;exact⟨g,d,c⟩
def qh {k:Type} (tt:List (TypeId×ai)) (m:List (Nat×ai)) (e:List (Nat×aH)) (h:Operand->ao) (a:Nat) (l:TypeId) (c:List (Nat×Operand)) (g:bm->Option k):Option k:=
 match jS tt l with
 |none=>none
 |some f=>match au m a with
  |some (.st j)=>bif a1 f j&&(kF c 0&&c.all (λi=>Nat.blt i.1 (eP j))) then match au e a,k6 e h c j 0 with
   |none,some (b,d)=>bif hO d then g ⟨some (a,.ref a []),d,[],[(a,⟨.st b.1,b.2⟩)]⟩ else none
   |_,_=>none
   else none
  |_=>bif kF c 0&&c.all (λi=>Nat.blt i.1 (eP f)) then match oq h c f 0 with
   |some b=>g ⟨some (a,.val (.st b.1) b.2),[],[],[]⟩
   |none=>match au e a,k6 e h c f 0 with
    |none,some (b,d)=>bif hO d then g ⟨some (a,.ref a []),d,[],[(a,⟨.st b.1,b.2⟩)]⟩ else none
    |_,_=>none
   else none
def Ia {J:Type} {G:J} {s:bm->Option J} (W:o.op=.build c r) (P:o.dst=some b) (R:C.ok b) (z:jS E.tt c=some x) (F:a1 x n=true\/x=n) (j:(kF r.toList 0&&r.toList.all (λp=>Nat.blt p.1 (eP n)))=true) (i:(match au st.h b,k6 st.h (aR st.g) r.toList n 0 with
  |none,some (d,e)=>bif hO e then s ⟨some (b,.ref b []),e,[],[(b,⟨.st d.1,d.2⟩)]⟩ else none
  |_,_=>none)=some G)
 (X:∀u,s u=some G->Q (u.app st)):dk E C o st Q:=by
 split at i
 case h_2=>cases i
 rename_i d e T m;cases q:hO e with
 |false=>rw[q] at i;cases i
 |true=>
 rw[q] at i;simp only[bc,eJ] at j;obtain⟨K,L⟩:=j;rintro a w ⟨I,rt,fp,k⟩ next a0 V
 have A:∀id d,au st.h id=some d->aP (ba I C.B) w d.1 (rt id) d.2 (fp id):=λid d m=>(k.tree id d m).1;obtain⟨M,ap,H,N,Y,bs,O⟩:=PE (a:=a) (w:=w) W z F K L (by
  obtain⟨M,ap,_,p⟩:=jS.ok z;intro am an av Z l bl;exact Kp A (λl=>k.aR l) (F.elim (λi=>ha.lay i p) (λi=>i▸p)) m am an av Z l (by rwa[hE]))
 obtain⟨v,a4,y⟩:=Ko A (λl=>k.aR l) (cells:=H.toList) N m U O;rw[kS] at v;refine dk.own (S:=e) (t:=⟨.st d.1,d.2⟩) (cs:=H.toList) (f:=(e.map fp).flatten) P R k V (.inr T) Y (gq.refl w) rfl v (k.EE (hO.ok q) y) (λa3 j=>?_) ?_
 ·obtain⟨id,D,j⟩:=Ff j;obtain⟨n,ad⟩:=y id D;exact .inr ⟨id,D,n,ad,j⟩
 have:=X _ i;rw[show(bm.mk (some (b,.ref b [])) e [] [(b,⟨.st d.1,d.2⟩)]).app st=⟨(b,.ref b [])::kill e [] st.g,(b,⟨.st d.1,d.2⟩)::del e st.h⟩ by
  show aO.mk ((b,_)::lK e [] st.g) ([_]++pi e st.h)=_;rw[om,sd];rfl] at this
 exact this
def Pu {v:Type} {s:v} {p:bm->Option v} (l:o.op=.build c r) (i:o.dst=some b) (j:C.ok b) (a:qh E.tt k st.h (aR st.g) b c r.toList p=some s) (m:∀q,p q=some s->Q (q.app st)):dk E C o st Q:=by
 unfold qh at a;split at a
 ·cases a
 rename_i t e;split at a
 ·rename_i u x;cases d:(a1 t u&&(kF r.toList 0&&r.toList.all (λn=>Nat.blt n.1 (eP u)))) with
  |false=>rw[d] at a;cases a
  |true=>
  rw[d] at a;simp only[cond_true] at a;have f:=d;rw[bc] at f;exact Ia l i j e (.inl f.1) f.2 a m
 cases d:(kF r.toList 0&&r.toList.all (λn=>Nat.blt n.1 (eP t))) with
 |false=>rw[d] at a;cases a
 |true=>
 rw[d] at a;simp only[cond_true] at a;split at a
 ·rename_i y w;refine dk.eval (an:=[]) i j ?_;rw[l];simp only[e6,v8,e,d,cond_true,w];exact m _ a
 exact Ia l i j e (.inr rfl) d a m
def rN {h:Type} (tt:List (TypeId×ai)) (j:List (Nat×ai)) (f:List (Nat×aH)) (a:Nat) (i:TypeId) (b:ao) (c:bm->Option h):Option h:=
 match au tt i,au f a with
 |some g,none=>match b with
  |.val e b=>bif a1 g e then match au j a with
   |some (.ptr .bB _)=>c ⟨some (a,.val (.ptr .bB e) (some b)),[],[],[]⟩
   |_=>c ⟨some (a,.ref a []),[],[],[(a,⟨.optr e,b⟩)]⟩
   else none
  |.ref id []=>match au f id with
   |some d=>bif a1 g d.1 then c ⟨some (a,.ref a []),[id],[],[(a,⟨.optr d.1,d.2⟩)]⟩ else none
   |none=>none
  |_=>none
 |_,_=>none
def Px {am:Type} {Y:am} {R:bm->Option am} (M:o.op=.box c m) (G:o.dst=some b) (H:C.ok b) (e:rN E.tt k st.h b c (aR st.g m) R=some Y) (N:∀U,R U=some Y->Q (U.app st)):dk E C o st Q:=by
 unfold rN at e;split at e
 case h_2=>cases e
 rename_i y F V;split at e
 ·rename_i D ad r;cases d:a1 y D with
  |false=>rw[d] at e;cases e
  |true=>
  rw[d] at e;simp only[cond_true] at e;split at e
  ·rintro a w ⟨I,rt,fp,l⟩ next ap L
   have n:=l.aR m;rw[r] at n;have J:=(E.ok c y F).lay d;generalize P:a.eval m=A at n;cases n with|val u=>
   rename_i z;have s:∀p i,ba I C.B p i->bN w (w.alloc (.cells z.toArray c)) i:=λp i d=>.of_heap ((gq.alloc w _).heap i (l.ib i (lM d)));have ce:Yields E C st a w I rt fp o (λT X=>Q ⟨(b,T)::st.g,X++st.h⟩):=by
    refine⟨.pointer (some ⟨w.heap.size,0,none⟩),w.alloc (.cells z.toArray c),λi=>I i\/i=w.heap.size,λ_=>[],λ_=>[],.val (.ptr .bB D) (some ad),[],?_,gq.alloc w _,λ_ e=>.inl e,?_,.nil,?_,N _ e⟩
    ·simp[execOp,M,P,Instr.box,newVar,newRow,nv J u.len u.one]
    ·rintro i (e|rfl)
     ·exact .inl e
     exact .inr ⟨a6 _,ab⟩
    refine .val (τ:=.ptr .bB D) (x:=some ad) (cs:=[.pointer (some ⟨w.heap.size,0,none⟩)]) ⟨rfl,w.heap.size,0,z,rfl,.inr rfl,u.len,dL.alloc (λci A K=>by simpa using K),?_⟩;refine u.mono (λp i d=>⟨?_,s p i d⟩) ab;cases p
    ·exact .inl d
    exact d.imp .inl (λe=>e)
   exact ce.wp l G H (λT X av w' bl a0 bs=>L _ av w' bl a0 bs)
  refine dk.eval (an:=[]) G H ?_;rw[M];simp only[e6,v9,F,V,r,d,cond_true];exact N _ e
 ·rename_i id r;split at e
  case h_2=>cases e
  rename_i j O;cases d:a1 y j.1 with
  |false=>rw[d] at e;cases e
  |true=>
  rw[d] at e;rintro a w ⟨I,rt,fp,l⟩ next ap L
  have n:=l.aR m;rw[r] at n;obtain⟨q,cv,Z⟩:=l.tree id j O;have J:=(E.ok c y F).lay d;generalize P:a.eval m=A at n;cases n with|ref W a4=>
  rw[O] at W;cases W;obtain⟨rfl,rfl,rfl⟩:=aS.eQ.1 a4;have s:∀i,i<w.heap.size->bN w (w.alloc (.cells (rt id).toArray c)) i:=λi d=>.of_heap ((gq.alloc w _).heap i d);have co:aP (ba I C.B) (w.alloc (.cells (rt id).toArray c)) j.1 (rt id) j.2 (fp id):=q.mono (λp i d=>⟨d,s i (l.ib i (lM d))⟩) (λi d=>s i (Z i d).2.2.1);refine dk.own (S:=[id]) (t:=⟨.optr j.1,j.2⟩) (cs:=[.pointer (some ⟨w.heap.size,0,none⟩)]) (f:=w.heap.size::fp id) (v:=.pointer (some ⟨w.heap.size,0,none⟩)) (w':=w.alloc (.cells (rt id).toArray c)) G H l L (.inr V) ?_ (gq.alloc w _) rfl ⟨w.heap.size,0,fp id,rt id,rfl,rfl,q.len,dL.alloc (λci A K=>by simpa using K),hB.alloc (by simp[q.len]),co⟩ (jd.2 ⟨λa3=>Nat.lt_irrefl _ (Z _ a3).2.2.1,cv⟩) ?_ ?_
  ·simp[execOp,M,P,Instr.box,newVar,newRow,nv J q.len q.one]
  ·intro i d;rcases dg.1 d with rfl|d
   ·exact .inl ⟨a6 _,ab⟩
   exact .inr ⟨id,ab,j,O,d⟩
  have:=N _ e;rw[show(bm.mk (some (b,.ref b [])) [id] [] [(b,⟨.optr j.1,j.2⟩)]).app st=⟨(b,.ref b [])::kill [id] [] st.g,(b,⟨.optr j.1,j.2⟩)::del [id] st.h⟩ from rfl] at this;exact this
 cases e
def rP (c:List (Nat×aH)) (a:ai) (x:ao):Option (a.den×ac7):=
 match x with
 |.ref id []=>match au c id with
  |some d=>match gv a d.2 with
   |some b=>some (b,[id])
   |none=>none
  |none=>none
 |x=>match coe a x with
  |some b=>some (b,[])
  |none=>none
def rQ (b:List (Nat×aH)) (a:ai):List ao->Option (List a.den×acW)
 |[]=>some ([],[])
 |x::e=>match rP b a x,rQ b a e with
  |some d,some c=>some (d.1::c.1,d.2::c.2)
  |_,_=>none
def PY {b:c5->Nat->Prop} (q:∀id n,au e id=some n->aP b w n.1 (rt id) n.2 (fp id)) (j:dC E.P n c) (m:bC b w e rt fp d H) {o:n.den} (a:rP e n d=some (o,f)):aP b w n H.cells.toList o (f.map fp).flatten/\∀id∈f,∃s,au e id=some s:=by
 unfold rP at a;split at a
 ·rename_i id;split at a
  case h_2=>cases a
  rename_i u g;split at a
  case h_2=>cases a
  rename_i t h;cases a;obtain⟨x,d⟩:=u;have p:=iR h;cases p;cases m with|ref l r=>
  rw[g] at l;cases l;obtain⟨rfl,rfl,rfl⟩:=aS.eQ.1 r;have i:=q id _ g;rw[nv j i.len i.one];refine⟨by simpa using i,λv k=>?_⟩;rw[ed] at k;subst k;exact⟨_,g⟩
 split at a
 ·rename_i t h;cases a;exact⟨DG j m h,ab⟩
 cases a
def Ip {e:List (Nat×aH)} {f:ai}:∀{c:List ao} {xs:List f.den} {is:acW},rQ e f c=some (xs,is)->xs.length=c.length/\is.length=c.length/\∀(a:Nat) (d:f.den),xs[a]?=some d->∃(y:ao) (h:ac7),c[a]?=some y/\is[a]?=some h/\rP e f y=some (d,h)
 |[],xs,is,b=>by cases b;exact⟨rfl,rfl,λa d e=>by simp at e⟩
 |y::c,xs,is,b=>by
  simp only[rQ] at b;split at b
  ·rename_i o i n m;cases b;obtain⟨j,k,l⟩:=Ip (xs:=i.1) (is:=i.2) m;refine⟨by simp[j],by simp[k],λa d g=>?_⟩;cases a with
   |zero=>simp only[iI,bF] at g;subst g;exact⟨y,o.2,rfl,rfl,n⟩
   |succ a=>simpa using l a d (by simpa using g)
  cases b
def qj {i:Type} (tt:List (TypeId×ai)) (k:List (Nat×ai)) (f:List (Nat×aH)) (e:Operand->ao) (a:Nat) (j:TypeId) (g:Nat) (c:List (Nat×Operand)) (d:bm->Option i):Option i:=
 match eX tt j,au f a with
 |some h,none=>
  match(match au k a with|some (.osl t)=>t|_=>h) with
  |t=>bif a1 h t&&Nat.ble t.size 2000&&Nat.ble g 1000&&s6 c 0&&Nat.beq c.length g then
   match wc t (c.map λb=>e b.2) with
   |some l=>d ⟨some (a,.ref a []),[],[],[(a,⟨.osl t,l⟩)]⟩
   |none=>match rQ f t (c.map λb=>e b.2) with
    |some b=>bif hO b.2.flatten then d ⟨some (a,.ref a []),b.2.flatten,[],[(a,⟨.osl t,b.1⟩)]⟩ else none
    |none=>none
  else none
 |_,_=>none
def PB {em:Type} {d9:em} {a0:bm->Option em} (d0:o.op=.buildSlice c b r) (ci:o.dst=some l) (co:C.ok l) (j:qj E.tt k st.h (aR st.g) l c b r.toList a0=some d9) (N:∀y,a0 y=some d9->Q (y.app st)):dk E C o st Q:=by
 unfold qj at j;split at j
 case h_2=>cases j
 rename_i p ce cv;generalize F:(match au k l with|some (.osl e)=>e|_=>p)=e at j;simp only at j;cases i:(a1 p e&&Nat.ble e.size 2000&&Nat.ble b 1000&&s6 r.toList 0&&Nat.beq r.toList.length b) with
 |false=>rw[i] at j;cases j
 |true=>
 rw[i] at j;simp only[cond_true] at j;split at j
 ·rename_i u d5;refine dk.eval (an:=k) ci co ?_;rw[d0];simp only[e6,tU,ce,cv];cases K:au k l with
  |none=>
   rw[K] at F;simp only at F;subst F;simp only[i,cond_true,d5];exact N _ j
  |some n=>
   rw[K] at F;cases n<;>(simp only at F;subst F;simp only[i,cond_true,d5];exact N _ j)
 split at j
 case h_2=>cases j
 rename_i n d2;obtain⟨u,q⟩:=n;cases W:hO q.flatten with
 |false=>rw[W] at j;cases j
 |true=>
 rw[W] at j;rintro a w ⟨I,rt,fp,H⟩ next hs gc
 have f1:∀id e,au st.h id=some e->aP (ba I C.B) w e.1 (rt id) e.2 (fp id):=λid e F=>(H.tree id e F).1;simp only[bc] at i;obtain⟨⟨⟨⟨ex,Z⟩,ad⟩,R⟩,a3⟩:=i;have Z:=eM Z;have ad:=eM ad;have a3:r.toList.length=b:=ep a3;obtain⟨d7,Y,_,fz,fT⟩:=eX.ok ce;have M:=fT.lay ex;obtain⟨ap,hv,d8,_⟩:=M.info;have io:=M.pos;obtain⟨fn,a4,bl⟩:=Ip d2;simp only[fK] at fn a4;have gl:u.length=b:=U;have ic:b*e.size<=16777216:=(by have:b*e.size<=1000*2000:=iu ad Z;omega);have V:∀(d:Nat) (n:Nat×Operand),r.toList[d]?=some n->∃(z:e.den) (s:ac7),u[d]?=some z/\q[d]?=some s/\aP (ba I C.B) w e (a.eval n.2).cells.toList z (s.map fp).flatten/\∀id∈s,∃p,au st.h id=some p:=(by intro d n D;have f8:d<u.length:=(by have:=(ec.1 D).1;omega);obtain⟨kg,s,al,fs,T⟩:=bl d u[d] ab;rw[eT,D] at al;simp only[fd,bF] at al;subst al;obtain⟨hc,hi⟩:=PY f1 M (H.aR n.2) T;exact⟨u[d],s,ab,fs,hc,hi⟩);have am:∀id∈q.flatten,∃p,au st.h id=some p:=by
  intro id A;obtain⟨O,K,f4⟩:=it.1 A;obtain⟨d,D,rfl⟩:=gD.1 K;have J:r.toList[d]?=some (r.toList[d]'(by omega)):=a9 _
  obtain⟨z,s,_,y,_,x⟩:=V d _ J;rw[a9 D] at y;cases y;exact x id f4
 obtain⟨d6,f5,f6⟩:∃el:acZ,(b*e.size=0->el=#[])/\(b*e.size≠0->∃L,(zeroValue Y).run E.P w=.ok L w/\el=L.cells):=by
  by_cases G:b*e.size=0
  ·exact⟨#[],λ_=>rfl,λj=>absurd G j⟩
  obtain⟨L,_,gs⟩:=dC.EL M;exact⟨L.cells,λj=>absurd j G,λ_=>⟨L,by simp[zeroValue,typeInfo,d8.info,gs ap d8.info],rfl⟩⟩
 obtain⟨av,ek,hr,i3,aK⟩:=xh (λap=>some (ap*e.size,e.size)) (r.toList.map λn=>(n.1,a.eval n.2)) ((Array.range (b*e.size)).map (d6[· %d6.size]!)) (by
  intro n N;obtain⟨i2,ge,rfl⟩:=bR.1 N;obtain⟨d,D,rfl⟩:=gD.1 ge;have J:r.toList[d]?=some r.toList[d]:=ab;obtain⟨z,_,_,_,X,_⟩:=V d _ J;have y:=pJ R d _ J;have:(d+1)*e.size<=b*e.size:=gE _ U;rw[e2,gN] at this;refine⟨_,_,rfl,by have:=X.len;simpa using this,?_⟩;simp only[Array.size_map,Array.size_range];rw[y,hE];exact this) (by
  rw[ga];intro d O D K f8 i0 i8 i1 jp al T;simp only[List.getElem_map,bF,fe] at al T;simp only[fK] at D K;have ft:=pJ R d r.toList[d] ab;have f2:=pJ R O r.toList[O] ab;obtain⟨rfl,rfl⟩:=al;obtain⟨rfl,rfl⟩:=T;left;rw[ft,f2];have:(0+d+1)*e.size<=(0+O)*e.size:=gE _ U;rw[e2,gN] at this;exact this)
 have gf:av.size=b*e.size:=(by rw[hr];simp);have bs:∀m,m<w.heap.size->bN w (w.alloc (.cells av Y)) m:=λm i=>.of_heap ((gq.alloc w _).heap m i);have f0:(q.map λs=>(s.map fp).flatten).flatten=(q.flatten.map fp).flatten:=by
  clear V am bl W j d2 a4
  induction q with
  |nil=>rfl
  |cons z O gt=>simp only[eo,ir,gt,fZ,oP]
 have ds:∀m∈(q.flatten.map fp).flatten,m<w.heap.size/\∃id∈q.flatten,∃p,au st.h id=some p/\m∈fp id:=(by intro m i;obtain⟨id,A,i⟩:=Ff i;obtain⟨p,x⟩:=am id A;exact⟨((H.tree id p x).2.2 m i).2.2.1,id,A,p,x,i⟩);refine dk.own (S:=q.flatten) (t:=⟨.osl e,u⟩) (cs:=[.slice (some ⟨w.heap.size,0,none⟩) b b]) (f:=w.heap.size::(q.flatten.map fp).flatten) (v:=.slice (some ⟨w.heap.size,0,none⟩) b b) (w':=w.alloc (.cells av Y)) ci co H gc (.inr cv) ?_ (gq.alloc w _) rfl ?_ (jd.2 ⟨λf9=>Nat.lt_irrefl _ (ds _ f9).1,H.EE (hO.ok W) am⟩) ?_ ?_
 ·have gi:=M.sizeOf w;have ii:¬(16777216<b*e.size):=U;have d1:(Array.map (λz=>(z.fst,a.eval z.snd)) r).toList=r.toList.map λn=>(n.1,a.eval n.2):=ab;simp only[execOp,d0,Instr.buildSlice,Sem.run_bind,run_underlying fz,Result.andThen_ok,gi];rw[ag U];by_cases G:b*e.size=0
  ·rw[aj G];obtain rfl:=f5 G;rw[d1];simp only[Sem.run_bind,Sem.run_pure,Result.andThen_ok,ek,newRow,newObj];rfl
  rw[ag G];obtain⟨L,go,rfl⟩:=f6 G;rw[d1];simp only[Sem.run_bind,Sem.run_pure,Result.andThen_ok,go,ek,newRow,newObj];rfl
 ·refine⟨some ⟨w.heap.size,0,none⟩,b,by rw[gl],.inr ⟨w.heap.size,0,q.map λs=>(s.map fp).flatten,rfl,by rw[f0],by simp;omega,(by show u.length<=b;omega),hB.alloc (by rw[gf];omega),λd z hw X dl=>?_⟩⟩;have D:d<b:=(by have:d<u.length:=(ec.1 X).1;omega);have J:r.toList[d]?=some (r.toList[d]'(by omega)):=by simp
  obtain⟨kd,s,d4,f3,d3,x⟩:=V d _ J;rw[X] at d4;obtain rfl:=ee d4;rw[eT,f3] at dl;obtain rfl:=ee dl;refine⟨_,d3.len,dL.alloc (λd7 eq f7=>?_),d3.mono (λis m i=>⟨i,bs m (H.ib m (lM i))⟩) (λm i=>?_)⟩
  ·have:=aK (r.toList[d].1,a.eval r.toList[d].2) (bR.2 ⟨r.toList[d],bD _,rfl⟩) _ _ rfl d7 eq (by simpa using f7);have y:=pJ R d _ J;rw[y,hE] at this;simpa using this
  obtain⟨id,A,i⟩:=Ff i;obtain⟨p,x⟩:=x id A;exact bs m ((H.tree id p x).2.2 m i).2.2.1
 ·intro m i;rcases dg.1 i with rfl|i
  ·exact .inl ⟨a6 _,ab⟩
  obtain⟨_,id,A,p,x,i⟩:=ds m i;exact .inr ⟨id,A,p,x,i⟩
 have:=N _ j;rw[show(bm.mk (some (l,.ref l [])) q.flatten [] [(l,⟨.osl e,u⟩)]).app st=⟨(l,.ref l [])::kill q.flatten [] st.g,(l,⟨.osl e,u⟩)::del q.flatten st.h⟩ by
  show aO.mk ((l,_)::lK _ [] st.g) ([_]++pi _ st.h)=_;rw[om,sd];rfl] at this
 exact this
end
end
section
def hh:ai->ai
 |.osl a=>.a5 .bB (hh a)
 |.st a=>.st (hh a)
 |.pr b c=>.pr (hh b) (hh c)
 |.mp a=>.dB .bB a
 |τ=>τ
def qF:ai->Bool
 |.osl a|.st a=>qF a
 |.pr b c=>qF b&&qF c
 |.optr _|.c6=>false
 |_=>true
def qH:∀d:ai,(hh d).den=d.den
 |.osl c=>congrArg List (qH c)
 |.st c=>qH c
 |.pr a b=>by show((hh a).den×(hh b).den)=(a.den×b.den);rw[qH a,qH b]
 |.int _|.bool|.str|.a5 _ _|.ptr _ _|.optr _|.nil|.c6|.mp _|.dB _ _=>rfl
def jQ (a:ai) (b:a.den):(hh a).den:=cast (qH a).symm b
def PJ {c:Type} (d:a=c) (e:List a=List c) (b:List a):cast e b=b.map (cast d):=by subst d;show b=b.map (λf=>f);simp
def PK {c C d:Type} (e:a=c) (f:C=d) (g:(a×C)=(c×d)) (b:a×C):cast g b=(cast e b.1,cast f b.2):=by subst e;subst f;rfl
def EF (a:ai) (b:List a.den):(jQ (.osl a) b:List (hh a).den)=b.map (jQ a):=PJ (qH a).symm _ b
def Rw (a b:ai) (c:a.den×b.den):(jQ (.pr a b) c:(hh a).den×(hh b).den)=(jQ a c.1,jQ b c.2):=PK (qH a).symm (qH b).symm _ c
def sv:∀b:ai,(hh b).size=b.size
 |.osl a=>rfl
 |.st a=>sv a
 |.pr c d=>by simp only[hh,ai.size,sv c,sv d]
 |.int _|.bool|.str|.a5 _ _|.ptr _ _|.optr _|.nil|.c6|.mp _|.dB _ _=>rfl
def vi {B u:c5->Nat->Prop} {w:World} (i:∀c a,B c a->u c a):∀{τ:ai} {g:ac1} {d:τ.den} {h:ac7},qF τ=true->aP B w τ g d h->(∀a∈h,u .bB a)->aP u w (hh τ) g (jQ τ d) []
 |.osl f,g,t,h,j,b,k=>by
  obtain⟨l,K,G,b⟩:=b;have s:(jQ (.osl f) t:List (hh f).den).length=List.length (α:=f.den) t:=(by rw[EF];simp);rcases b with⟨rfl,E,rfl,rfl⟩|⟨a,R,D,rfl,rfl,r,o,F,A⟩
  ·refine⟨rfl,none,0,by rw[G,s],by rw[s,E];simp,λ_=>rfl,.inl ?_⟩;rw[EF,E];rfl
  refine⟨rfl,_,K,by rw[G,s],by rw[s];exact o,(λb=>by cases b),?_⟩;refine .inr ⟨a,R,rfl,k a ab,λm d q=>?_⟩;rw[EF] at q;have q:(List.map (jQ f) t)[m]?=some d:=q;rw[eT] at q;obtain⟨S,H,rfl⟩:=dY.1 q;have U:m<List.length (α:=f.den) t:=(ec.1 H).1;have O:D[m]?=some (D[m]'(by omega)):=a9 _
  obtain⟨z,v,x,y⟩:=A m S _ H O;rw[sv];exact⟨z,v,x,vi i j y (λn p=>k n (e1 _ (it.2 ⟨_,bD _,p⟩)))⟩
 |.st f,g,d,h,j,b,k=>vi (τ:=f) i j b k
 |.pr l a,g,d,h,j,b,k=>by
  simp only[qF,bc] at j;obtain⟨T,f2,rfl,r,o⟩:=b;have C:=Rw l a d;refine⟨[],[],rfl,?_,?_⟩
  ·rw[sv];have:=vi i j.1 r (λn p=>k n (by simp[p]));rw[show(jQ (.pr l a) d:(hh l).den×(hh a).den).1=jQ l d.1 by rw[C]];exact this
  rw[sv];have:=vi i j.2 o (λn p=>k n (by simp[p]));rw[show(jQ (.pr l a) d:(hh l).den×(hh a).den).2=jQ a d.2 by rw[C]];exact this
 |.int Q,g,d,h,_,b,_=>by obtain rfl:=aP.pure (τ:=.int Q) rfl b;exact b.mono (λc a e=>⟨i c a e,bN.refl _ _⟩) ab
 |.bool,g,d,h,_,b,_=>by obtain rfl:=aP.pure (τ:=.bool) rfl b;exact b.mono (λc a e=>⟨i c a e,bN.refl _ _⟩) ab
 |.str,g,d,h,_,b,_=>by obtain rfl:=aP.pure (τ:=.str) rfl b;exact b.mono (λc a e=>⟨i c a e,bN.refl _ _⟩) ab
 |.a5 c f,g,d,h,_,b,_=>by obtain rfl:=aP.pure (τ:=.a5 c f) rfl b;exact b.mono (λc a e=>⟨i c a e,bN.refl _ _⟩) ab
 |.ptr c f,g,d,h,_,b,_=>by obtain rfl:=aP.pure (τ:=.ptr c f) rfl b;exact b.mono (λc a e=>⟨i c a e,bN.refl _ _⟩) ab
 |.nil,g,d,h,_,b,_=>by obtain rfl:=aP.pure (τ:=.nil) rfl b;exact b.mono (λc a e=>⟨i c a e,bN.refl _ _⟩) ab
 |.optr _,_,_,_,j,_,_=>by cases j
 |.dB c f,g,d,h,_,b,_=>by obtain rfl:=aP.pure (τ:=.dB c f) rfl b;exact b.mono (λc a e=>⟨i c a e,bN.refl _ _⟩) ab
 |.mp f,g,d,h,_,b,k=>by
  cases d with
  |none=>exact⟨rfl,b.2⟩
  |some I=>
   obtain⟨a,L,J,r,o,N,F,A,M⟩:=b;refine⟨a,L,J,r,rfl,N,k a (by rw[o];simp),F,A,λm I P=>?_⟩;obtain⟨z,v,x,y⟩:=M m I P;exact⟨z,v,x,y.mono (λc a e=>⟨i c a e,bN.refl _ _⟩) ab⟩
 |.c6,_,_,_,j,_,_=>by cases j
def pp:aH->ao
 |⟨.optr u,x⟩=>.val (.ptr .bB (hh u)) (some (jQ u x))
 |⟨a,x⟩=>.val (hh a) (jQ a x)
def EG:ai->Bool
 |.optr a=>qF a
 |τ=>qF τ
def fg (c:List (Nat×aH)) (b:ac7) (a:ao):ao:=
 match a with
 |.ref id []=>bif c9 id b then match au c id with
  |some d=>pp d
  |none=>.dead else .ref id []
 |a=>bif a.dK b then .dead else a
def k5 (c:List (Nat×aH)) (b:ac7) (a:ao):(∃id d,a=.ref id []/\id∈b/\au c id=some d/\fg c b a=pp d)\/(fg c b a=.dead/\a.dK b=true)\/(fg c b a=a/\a.dK b=false):=by
 have i:∀a:ao,fg c b a=(bif a.dK b then .dead else a)->(∃id d,a=.ref id []/\id∈b/\au c id=some d/\fg c b a=pp d)\/(fg c b a=.dead/\a.dK b=true)\/(fg c b a=a/\a.dK b=false):=by
  intro a f;cases g:a.dK b with
  |true=>rw[g] at f;exact .inr (.inl ⟨f,rfl⟩)
  |false=>rw[g] at f;exact .inr (.inr ⟨f,rfl⟩)
 cases a with
 |ref id j=>
  cases j with
  |nil=>
   cases e:c9 id b with
   |true=>
    have g:(ao.ref id []).dK b=true:=(by simp[ao.dK,ao.ids,e]);cases h:au c id with
    |none=>exact .inr (.inl ⟨by simp[fg,e,h],g⟩)
    |some d=>exact .inl ⟨id,d,rfl,ej.1 e,h,by simp[fg,e,h]⟩
   |false=>exact .inr (.inr ⟨by simp[fg,e],by simp[ao.dK,ao.ids,e]⟩)
  |cons k j=>exact i _ rfl
 |_=>exact i _ rfl
def g4 (c:List (Nat×aH)) (b:ac7):ao->ao
 |.dv d=>.dv (d.map (fg c b))
 |a=>fg c b a
def Bu (b:∀a,d≠.dv a):g4 e f d=fg e f d:=by
 cases d with
 |dv a=>exact absurd rfl (b a)
 |_=>rfl
def qG (a:ac7) (st:aO):aO:=⟨st.g.map λb=>(b.1,g4 st.h a b.2),del a st.h⟩
def JA (c:ao->ao) (e:c .dead=.dead):∀(d:List (Nat×ao)) (b:Nat),gt (d.map λf=>(f.1,c f.2)) b=c (gt d b)
 |[],b=>e.symm
 |(g,a)::d,b=>by
  show gt ((g,c a)::_) b=_;rw[hj,hj];split
  ·rfl
  exact JA c e d b
def Bw (a:ac7) (st:aO) (b:Nat):gt (qG a st).g b=g4 st.h a (gt st.g b):=JA (g4 st.h a) rfl st.g b
def Rx (a:ac7) (st:aO):aR (qG a st).g=λb=>g4 st.h a (aR st.g b):=by
 funext b;cases b with
 |tmp c=>exact Bw a st c
 |const d=>cases d<;>rfl
 |func e=>rfl
 |global f=>rfl
def CR (a:d.dK f=false) (b:List (Nat×List aW)):dr f b d=d:=by unfold dr;rw[a];rfl
def Y3 (a:(ao.dv L).dK f=false) (c:d∈L):d.dK f=false:=by unfold ao.dK at a|-;rw[tw] at a|-;intro id g;obtain⟨b,e,rfl⟩:=gD.1 c;exact a id (ao.xK (l:=L) (i:=b) (a9 e) g)
def Y2 (b:d.dK f=false) (a:List (Nat×List aW)):ef f a d=d:=by
 cases d with
 |dv e=>
  simp only[ef];rw[hZ (λd c=>CR (Y3 b c) a),List.map_id']
 |_=>exact CR b a
def su (a:ac7) (b:List (Nat×List aW)) (c:aH):ef a b (pp c)=dr a b (pp c):=by unfold pp;split<;>rfl
def vy (a e:ao):Prop:=a=.dead\/a=e\/∃b c,a=.dv b/\e=.dv c/\b.length=c.length/\∀(f:Nat) (d g:ao),b[f]?=some d->c[f]?=some g->d=.dead\/d=g
section
variable {C:dn} {st:aO} {G:acZ} {w:World}
def br.freeze {i:Nat->Prop} (u:br C st G w i y z) (W:∀id∈f,∃b,au st.h id=some b/\EG b.1=true):e3 C (qG f st) G w:=by
 have N:=u.eI (S:=f) (keep:=[]) (new:=[]) (rtn:=y) (fpn:=z) (w':=w) (I':=λa=>i a\/∃id∈f,∃b,au st.h id=some b/\a∈z id) ⟨a6 _,rfl,rfl,rfl,λ_ _ _=>rfl,λ_ _=>.refl _ _,λ_ c=>.inl c,λa c=>c.imp id λ⟨id,ad,b,s,o⟩=>
  ⟨((u.tree id b s).2.2 a o).2.2.1,.inr ⟨id,ad,b,s,o⟩⟩,(λ_ _ c=>by cases c),(λ_ _ _ _ c=>by cases c),(λ_ c=>by cases c),(λ_ c=>by cases c)⟩
 refine⟨_,_,_,{N with tmp:=λq=>?_}⟩;rw[Bw];have p:=u.tmp q;have k:=N.tmp q;rw[show gt (aO.mk (kill f [] st.g) ([]++del f st.h)).g q=ef f [] (gt st.g q) from nf _ _ _ _] at k;generalize gt st.g q=l at p k;generalize G.getD q undef=e at p k;have H:∀(l:ao) (e:Value),bC (ba i C.B) w st.h y z l e->bC (ba (λa=>i a\/∃id∈f,∃b,au st.h id=some b/\a∈z id) C.B) w ([]++del f st.h) (dz [] y y) (dz [] z z) (dr f [] l) e->
  bC (ba (λa=>i a\/∃id∈f,∃b,au st.h id=some b/\a∈z id) C.B) w ([]++del f st.h) (dz [] y y) (dz [] z z) (fg st.h f l) e:=by
  intro l e p k;rcases k5 st.h f l with⟨id,b,j,m,n,V⟩|⟨j,_⟩|⟨j,m⟩
  ·rw[V];rw[j] at p;cases p with|ref s an=>
   rw[n] at s;cases s;obtain⟨rfl,rfl,rfl⟩:=aS.eQ.1 an;obtain⟨ci,M,K⟩:=W id m;rw[n] at M;cases M;have J:∀v a,ba i C.B v a->ba (λa=>i a\/∃id∈f,∃b,au st.h id=some b/\a∈z id) C.B v a:=by
    intro v a o;cases v
    ·exact .inl o
    exact o.imp .inl (λc=>c)
   have L:=(u.tree id b n).1;have A:∀a∈z id,ba (λa=>i a\/∃id∈f,∃b,au st.h id=some b/\a∈z id) C.B .bB a:=λa o=>.inr ⟨id,m,b,n,o⟩;obtain⟨d,t⟩:=b;by_cases D:∃r,d=.optr r
   ·obtain⟨r,rfl⟩:=D;obtain⟨a,E,bl,Q,al,I,R,T,a4,U⟩:=L;show bC _ _ _ _ _ (.val (.ptr .bB (hh r)) (some (jQ r t))) _;have al:y id=[.pointer (some ⟨a,E,none⟩)]:=al;rw[al];refine .val (τ:=.ptr .bB (hh r)) (x:=some (jQ r t)) (cs:=[.pointer (some ⟨a,E,none⟩)]) ⟨rfl,a,E,Q,rfl,A a (by rw[I];exact jE ..),by rw[sv];exact R,T,vi J K U (λP X=>A P (by rw[I];exact e1 _ X))⟩
   have av:bG d (y id)=bG (hh d) (y id):=(by cases d<;>rfl);have a0:pp ⟨d,t⟩=.val (hh d) (jQ d t):=by cases d<;>first|rfl|exact absurd ⟨_,rfl⟩ D
   have ap:qF d=true:=by cases d<;>first|exact K|exact absurd ⟨_,rfl⟩ D
   rw[a0];show bC _ _ _ _ _ _ (bG d (y id));rw[av];exact .val (vi J ap L A)
  ·rw[j];exact .dead _
  rw[j];rw[CR m] at k;exact k
 cases l with
 |dv ce=>
  cases p with|dv am Y=>
  cases k with|dv bs Z=>
  refine .dv (by simp[am]) (λO a3 e j m=>?_);rw[eT] at j;obtain⟨F,n,rfl⟩:=dY.1 j;exact H F e (Y O F e n m) (Z O _ e (by rw[eT,n];rfl) m)
 |_=>exact H _ _ p k
def e3.J5 (y:e3 C st G w) (E:∀b,vy (gt i.g b) (gt st.g b)) (k:∀id,au i.h id=au st.h id):e3 C i G w:=by
 obtain⟨o,q,p,e⟩:=y;refine⟨o,q,p,{e with tree:=λid j m=>e.tree id j (by rw[<-k];exact m),dis:=λf K j M H I=>e.dis f K j M (by rw[<-k];exact H) (by rw[<-k];exact I),tmp:=λb=>?_}⟩;have t:∀(d:ao) (c:Value),bC (ba o C.B) w st.h q p d c->bC (ba o C.B) w i.h q p d c:=λd c A=>
  A.qX (λP N D=>⟨D,bN.refl _ _⟩) (λid _ j m=>⟨by rw[k];exact m,rfl,rfl,(e.tree id j m).1,λ_ _=>bN.refl _ _⟩)
 have l:=e.tmp b;rcases E b with a|a|⟨O,L,al,u,v,x⟩
 ·rw[a];exact .dead _
 ·rw[a];exact t _ _ l
 rw[al];rw[u] at l;generalize G.getD b undef=c at l;cases l with|dv J F=>
 refine .dv (v.trans J) (λf d c r z=>?_);obtain⟨n,s⟩:∃n,L[f]?=some n:=(by have:=(ec.1 r).1;exact⟨_,a9 U⟩);rcases x f d n r s with a|a
 ·rw[a];exact .dead _
 rw[a];exact t _ _ (F f n c s z)
def e3.less (b:e3 C st G w) (c:∀a,gt i.g a=.dead\/gt i.g a=gt st.g a) (d:∀id,au i.h id=au st.h id):e3 C i G w:=
 b.J5 (λa=>(c a).imp id .inl) d
end
def pR:Op->List Operand
 |.build _ c=>c.toList.map (·.2)
 |.buildSlice _ _ c=>c.toList.map (·.2)
 |.store _ _ a=>[a]
 |.mapUpdate _ _ _ a=>[a]
 |.insert _ _ _ a=>[a]
 |.entryStore _ _ _ a=>[a]
 |.box _ a=>[a]
 |.assign a=>[a]
 |.call b=>match b.callee with
  |.value _=>b.args.toList
  |.builtin .append=>b.args.toList.drop 1
  |_=>[]
 |_=>[]
def ss (b:Oper):Nat:=match b.dst with
 |some a=>a
 |none=>999999
def kC (a:ac9) (c:Nat) (b:Operand->ao):List Operand->ac7
 |[]=>[]
 |x::d=>match b x with
  |.ref id []=>bif a.any (λe=>Nat.beq e.1 c&&Nat.beq e.2 id) then id::kC a c b d else kC a c b d
  |_=>kC a c b d
end
section
def DL {c d:List a} (e:l<=b) (f:b<=c.length):(hL c d l b).length=c.length:=by unfold hL;simp only[lu,dS,ka];omega
def Iv {d e:List a} (i:b<=l) (j:l<=d.length) (c:Nat):(hL d e b l)[c]?=if b<=c/\c<b+min e.length (l-b) then e[c-b]? else d[c]?:=by
 unfold hL;rw[yP];simp only[dS];rcases bn c b with f|f
 ·rw[aj U,ag U,kT f]
 rw[ag U,yP];simp only[dS];have g:c-min b d.length=c-b:=U;rw[g];by_cases h:c<b+min e.length (l-b)
 ·rw[aj U,aj ⟨f,h⟩,kT U]
 rw[ag U,ag U,iJ];congr 1;omega
def o2 {k:Type} (tt:List (TypeId×ai)) (d:List (Nat×aH)) (f:Nat) (l:TypeId) (m j:ao) (e:bm->Option k):Option k:=
 match eX tt l with
 |none=>none
 |some i=>match m with
  |.ref id []=>match au d id with
   |some ⟨.osl a,b⟩=>bif a1 i a&&Nat.beq a.size 1&&a.pure then
    (jw d a j).bind λc=>e ⟨some (f,.val (.int .i64) ((min c.length (b.length-0):Nat):Int)),[id],[(id,[])],[(id,⟨.osl a,hL b c 0 b.length⟩)]⟩
    else none
   |_=>none
  |.view id [] h g=>match au d id with
   |some ⟨.osl a,b⟩=>bif a1 i a&&Nat.beq a.size 1&&a.pure then
    (jw d a j).bind λc=>e ⟨some (f,.val (.int .i64) ((min c.length (g-h):Nat):Int)),[id],[(id,[])],[(id,⟨.osl a,hL b c h g⟩)]⟩
    else none
   |_=>none
  |_=>none
def bm.Pe {a:List (Nat×List aW)} {st:aO}:(bm.mk (some (b,d)) f a e).app st=⟨(b,d)::kill f a st.g,e++del f st.h⟩:=by show aO.mk ((b,d)::lK f a st.g) (e++pi f st.h)=_;rw[om,sd]
section
variable {E:dR} {C:dn} {st:aO} {a:Act} {w:World} {I:Nat->Prop} {rt:Nat->ac1} {fp:Nat->ac7} {o:Oper}
def GX (e:br C st a.tmps w I rt fp) {b:List n.den} (c:jw st.h n (aR st.g m)=some b):vZ I C.B w n (a.eval m) b:=by
 refine tg e ?_;have:=yE c;generalize pU st.h n (aR st.g m)=i at this;cases i with
 |du k=>exact this.symm
 |part l o j=>obtain⟨f,d,rfl⟩:=this;exact⟨f,d,rfl⟩
 |bad=>exact this.elim
def DK (ds:br C st a.tmps w I rt fp) {f8:Type} {f4:f8} {d7:bm->Option f8} {d6:Operand} (i0:o.op=.call {callee:=.builtin .copy,args:=#[m,d6],argTypes:=#[c,q]}) (Z:o.dst=some W) (hc:C.ok W) {next:Act->World->Prop} {d9:Exit->Act->World->Prop} (is:∀f5 a4 w',(∃p,d7 p=some f4/\f5=p.app st)->a4.defers=a.defers->e3 C f5 a4.tmps w'->next a4 w') (go:eX E.tt c=some x) (io:a1 x n=true) (t:n.size=1) (am:n.pure=true) {id:Nat} {k g:List n.den} (O:au st.h id=some ⟨.osl n,k⟩) (J:b<=l) (K:l<=k.length) (i3:vZ I C.B w n (a.eval d6) g) {bl:Option Addr} {ek:Nat} (fT:a.eval m=.slice bl (l-b) ek) (i2:l-b=0\/∃d j V,rt id=[.slice (some ⟨d,j,none⟩) k.length V]/\bl=some ⟨d,j+b,none⟩) (gf:d7 ⟨some (W,.val (.int .i64) ((min g.length (l-b):Nat):Int)),[id],[(id,[])],[(id,⟨.osl n,hL k g b l⟩)]⟩=some f4):o.wp E.P a w next d9:=by
 obtain⟨f,d8,aw,ex,gc⟩:=eX.ok go;have ge:=gc.lay io;obtain⟨on,_,a0,_⟩:=ge.info;obtain⟨d5,mc,f6⟩:=ds.tree id _ O;obtain⟨f7,mo,X,f1,d1,hv⟩:=i3;have em:∀w':World,w'.heap.size=w.heap.size->w'.os=w.os->w'.tape=w.tape->w'.output=w.output->(∀d,d∉fp id->w'.heap[d]?=w.heap[d]?)->(∀d,hk w' d=hk w d)->aP (ba I C.B) w' (.osl n) (rt id) (hL k g b l) (fp id)->
  (Builtin.copy_ #[c,q] o.type #[a.eval m,a.eval d6]).run E.P w=.ok (goInt ((min g.length (l-b):Nat):Int)) w'->o.wp E.P a w next d9:=by
  intro w' lb le lk lo lp l2 lt N;have N:(execOp a.eval o).run E.P w=.ok (.value (goInt ((min g.length (l-b):Nat):Int))) w':=(by simp only[execOp,i0,resolve,invoke,builtin,Sem.run_bind,Sem.run_pure,Result.andThen_ok,vO,eo,p5,N]);have i1:=ds.eI (S:=[id]) (keep:=[(id,[])]) (new:=[(id,⟨.osl n,hL k g b l⟩)]) (rtn:=rt) (fpn:=fp) (w':=w') (I':=I)
   ⟨Nat.le_of_eq lb.symm,le,lk,lo,λd Y gl=>lp d (gl id ab _ O),λd _=>.of_eq (l2 d),λ_ H=>H,λ_ H=>.inl H,(by
    intro f d4 s;rw[bU] at s;split at s
    ·rename_i p;subst p;cases s;exact⟨.inl ab,lt,mc,λd Y=>⟨(f6 d Y).1,by have:=(f6 d Y).2.2.1;omega,.inr ⟨_,ab,_,O,Y⟩⟩⟩
    ·cases s),(by
    intro f e pm pr s d3 ib;rw[bU] at s d3;split at s
    ·split at d3
     ·rename_i al ce;exact absurd (al.symm.trans ce) ib
     cases d3
    ·cases s),(by
    intro p A d4 an;simp only[ed] at A;subst A;have an:au st.h id=some d4:=an;rw[O] at an;obtain rfl:=ee an;exact⟨⟨.osl n,hL k g b l⟩,by rw[bU,aj rfl],rfl,rfl,⟨_,rfl⟩,λla _ _ _ u=>by rw[BI] at u;cases u⟩),(by
    intro p A d4 _ la _ _ _ _ _ Z;simp only[ed] at A;subst A;rw[se] at Z;cases Z)⟩
  unfold Oper.wp;rw[N];show next (a.put o.dst _) w'
  rw[Z];have am:=i1.put hc (av:=.val (.int .i64) ((min g.length (l-b):Nat):Int)) (v:=goInt ((min g.length (l-b):Nat):Int)) (.val (τ:=.int .i64) (cs:=[.int .i64 _]) ⟨rfl,rfl⟩);have hrel:e3 C ((bm.mk (some (W,.val (.int .i64) ((min g.length (l-b):Nat):Int))) [id] [(id,[])] [(id,⟨.osl n,hL k g b l⟩)]).app st) (a.put (some W) (goInt ((min g.length (l-b):Nat):Int))).tmps w':=(by rw[bm.Pe];exact⟨I,_,_,am⟩);exact is _ _ _ ⟨_,gf,rfl⟩ rfl hrel
 have ii:Nat.min g.length (l-b)=min g.length (l-b):=rfl;by_cases u:min g.length (l-b)=0
 ·have gs:hL k g b l=k:=by
   apply gK;intro f;rw[Iv J K,ag U]
  refine em w rfl rfl rfl rfl (λ_ _=>rfl) (λ_=>rfl) (by rw[gs];exact d5) ?_;rw[fT,f1,u];exact run_copy_none w c q o.type d8 bl f7 _ _ _ _ ex (by rw[a0.info];simp[a0.size,t]) (by rw[ii];exact u)
 rcases i2 with no|⟨d,j,V,fz,rfl⟩
 ·omega
 rw[fz] at d5;obtain⟨mz,nn,al,ce⟩:=d5;simp only[fJ,Value.slice.injEq,and_true] at al;obtain⟨rfl,_,rfl⟩:=al;rcases ce with⟨bs,_⟩|⟨nd,pl,G,bs,d2,co,cv,dl,eq⟩
 ·cases bs
 cases bs;have cv:k.length<=V:=cv;have co:G.length=k.length:=co;have hs:G.flatten=[]:=Ey (λci L=>by
  obtain⟨f,s,rfl⟩:=gD.1 L;have of:f<k.length:=(by rw[<-co];exact s);obtain⟨D,_,_,F⟩:=eq f k[f] G[f] ab ab;exact F.pure am)
 rw[hs] at d2;obtain⟨ap,f3,kd,kg,k0⟩:=d1.cells U;rw[t,Nat.mul_one] at f3;have f0:g≠[]:=λp=>(by rw[p] at u;simp at u);obtain⟨a3,rfl⟩:∃a3,f7=some a3:=by
  rcases d1.2 with H|⟨ne,or,rfl,_⟩
  ·exact absurd H f0
  exact⟨_,rfl⟩
 let i:=ap.take (min g.length (l-b))
 have fs:i.length=min g.length (l-b):=(by simp[i,f3]);have gt:∀e v,i[e]?=some v->ap[e]?=some v:=λe v r=>by
  rw[rx] at r;split at r
  ·exact r
  cases r
 have d0:∀e,e<i.length->(w.cell? ⟨d,j+b+e,none⟩).isSome=true:=λe r=>(dl (j+b+e) U (by rw[t];omega)).1;have N:=run_copy_cells (P:=E.P) w c q o.type d8 d (j+b) (l-b) ek a3 g.length mo i ex (by rw[a0.info];simp[a0.size,t]) (by rw[fs]) (λe v r=>kg a3 rfl f0 e v (gt e v r)) d0 (λe r=>(dl (j+b+e) U (by rw[t];omega)).2) (λv y=>kd v (List.mem_of_mem_take y));have fn:d∈fp id:=(by rw[d2];simp);have gi:∀R z,ba I C.B R z->z≠d:=λR z ad p=>ds.notM O d fn R (p▸ad);refine em (w.setCells d (j+b) i) (vp d i _ w) (oB d i _ w).1 (oB d i _ w).2.1 (oB d i _ w).2.2 (λz u=>yn d i _ w z (λp=>u (p▸fn))) (λz=>xH _ _ _ _ _) ?_ ?_
 ·rw[fz,d2];refine⟨some ⟨d,j,none⟩,V,by rw[DL J K],.inr ⟨d,j,List.replicate k.length [],rfl,by rw[Ey (λci L=>List.eq_of_mem_replicate L)],by rw[DL J K];simp,by rw[DL J K];exact cv,?_,?_⟩⟩
  ·intro e i8 jp;obtain⟨mp,mt⟩:=dl e i8 jp;exact⟨by rw[<-mp,(U:e=(j+b)+e-(j+b))];exact(Gp d i (j+b) w d0 _).trans (by congr 1),by rw[World.frozen?_setCells];exact mt⟩
  intro f T ci Q L;have hr:ci=[]:=(by have:=kt L;exact List.eq_of_mem_replicate this);subst hr;rw[Iv J K] at Q;have f2:∀{D:ac1} {T:n.den},aP (ba I C.B) w n D T []->aP (ba I C.B) (w.setCells d (j+b) i) n D T []:=λM=>M.mono (λR z ad=>⟨ad,pK (gi R z ad)⟩) ab;split at Q
  ·rename_i n5;have r:f-b<i.length:=U;have hw:X[f-b]?=some []:=by
    have ft:f-b<X.length:=(by rw[d1.1];omega);rw[a9 ft];have:X[f-b]∈X:=bD ft;congr 1;exact(List.flatten_eq_nil_iff.1 hv) _ this
   have M:=k0 (f-b) T [] Q hw;rw[t,Nat.mul_one] at M;have hi:(ap.drop (f-b)).take 1=[i[f-b]]:=(by have ic:f-b<ap.length:=U;rw[C6 ic];simp only[List.take_succ_cons,List.take_zero,fJ,and_true];simp[i]);rw[hi] at M;refine⟨[i[f-b]],by simp[t],?_,f2 M⟩;intro e v y;cases e with
   |zero=>
    simp only[iI,bF] at y;subst y;have:=World.cell?_setCells_in d i (j+b) w d0 (f-b) r;rw[<-this,t];congr 2;omega
   |succ e=>simp at y
  rename_i ol;have nx:f<k.length:=(ec.1 Q).1;obtain⟨D,el,f9,F⟩:=eq f T (G[f]'(by omega)) Q ab
  have A:G[f]'(by omega)=[]:=F.pure am
  rw[A] at F;refine⟨D,el,?_,f2 F⟩;intro e v y;have:=f9 e v y;have r:e<D.length:=(ec.1 y).1;rw[World.cell?_setCells_out d i (j+b) w _ (λ_ _=>?_)]
  ·exact this
  rw[el,t] at r;simp only[t];omega
 rw[fT,f1];have:goInt ((min g.length (l-b):Nat):Int)=goInt i.length:=(by rw[fs]);rw[this];exact N
def dk.copy {S:Type} {O:S} {H:bm->Option S} {R:Operand} (B:o.op=.call {callee:=.builtin .copy,args:=#[m,R],argTypes:=#[c,q]}) (x:o.dst=some b) (y:C.ok b) (d:o2 E.tt st.h b c (aR st.g m) (aR st.g R) H=some O):dk E C o st (λY=>∃L,H L=some O/\Y=L.app st):=by
 rintro a w ⟨I,rt,fp,f⟩ next an A
 have k:=f.aR m;unfold o2 at d;split at d
 ·cases d
 rename_i P D;split at d
 ·rename_i id v;split at d
  case h_2=>cases d
  rename_i j Q i;cases e:(a1 P j&&Nat.beq j.size 1&&j.pure) with
  |false=>rw[e] at d;cases d
  |true=>
  rw[e] at d;simp only[bc] at e;obtain⟨ad,p,d⟩:=bZ.1 d;rw[v] at k;generalize n:a.eval m=Z at k;cases k with|ref l z=>
  rw[i] at l;cases l;obtain⟨rfl,rfl,rfl⟩:=aS.eQ.1 z;have G:=(f.tree id _ i).1;obtain⟨J,s,al,M⟩:=G;have U:a.eval m=.slice J (Q.length-0) s:=(by rw[n,al];rfl);refine DK f B x y A D e.1.1 (ep e.1.2) e.2 i (bM _) (a6 _) (GX f p) U ?_ d;rcases M with⟨_,rfl,_⟩|⟨r,F,ap,rfl,_⟩
  ·exact .inl rfl
  exact .inr ⟨r,F,s,al,rfl⟩
 ·rename_i id X av v;split at d
  case h_2=>cases d
  rename_i j Q i;cases e:(a1 P j&&Nat.beq j.size 1&&j.pure) with
  |false=>rw[e] at d;cases d
  |true=>
  rw[e] at d;simp only[bc] at e;obtain⟨ad,p,d⟩:=bZ.1 d;rw[v] at k;generalize n:a.eval m=Z at k;cases k with|kn=>(exact DK f B x y A D e.1.1 (ep e.1.2) e.2 i (a6 _) (bM _) (GX f p) n (.inl rfl) d)|view l z V W a0=>
  rw[i] at l;cases l;rename_i am a4 r F a3 s;obtain⟨t,_,u⟩:=aS.eQ.1 z;have t:ai.osl j=ai.osl am:=t;cases t;have N:=ep e.1.2;have G:=(f.tree id _ i).1;obtain⟨J,K,al,M⟩:=G;rw[al] at u;simp only[fJ,Value.slice.injEq,and_true] at u;obtain⟨rfl,rfl,rfl⟩:=u;refine DK f B x y A D e.1.1 N e.2 i V W (GX f p) n ?_ d;by_cases T:K=X
  ·left;omega
  exact .inr ⟨r,F,K,al,by rw[ag T,N,Nat.mul_one]⟩
 cases d
end
end
section
def aS.cells {w q:World} (e:∀a,q.cell? a=w.cell? a):∀{p:List aW} {τ r:ai} {m n:Loc} {f g:ac1},aS w τ m f p r n g->aS q τ m f p r n g
 |[],τ,_,_,_,_,_,c=>by cases τ<;>exact c
 |s::p,τ,r,m,n,f,g,c=>by
  have u:∀{b o:Nat} {d:ac1},dL w b o d->dL q b o d:=λy A C z=>(by rw[e];exact y A C z);cases τ<;>cases s<;>simp only[aS] at c
  case osl.idx t i=>
   obtain⟨b,o,B,v,d,h,j,k,l,x⟩:=c;exact⟨b,o,B,v,d,h,j,k,u l,x.cells e⟩
  case optr.deref t=>
   obtain⟨b,o,d,h,j,k,l⟩:=c;exact⟨b,o,d,h,j,u k,l.cells e⟩
  case st.unst t=>exact aS.cells e (τ:=t) c
  case pr.fst a b=>exact aS.cells e (τ:=a) c
  case pr.snd a b=>exact aS.cells e (τ:=b) c
def YP (a:ai):dF a []=some a:=by cases a<;>rfl
def aS.vu {w:World} {r:List aW}:∀{p:List aW} {τ c:ai} {m n:Loc} {e f:ac1},aS w τ m e p c n f->dF τ (p++r)=dF c r
 |[],τ,_,_,_,_,_,a=>by obtain⟨rfl,_⟩:=aS.eQ.1 a;rfl
 |s::p,τ,_,_,_,_,_,a=>by
  cases τ<;>cases s<;>simp only[aS] at a
  case osl.idx t i=>obtain⟨d,o,u,q,g,h,j,k,b,l⟩:=a;exact l.vu
  case optr.deref t=>obtain⟨d,o,g,h,j,k,b⟩:=a;exact b.vu
  case st.unst t=>exact aS.vu (p:=p) (τ:=t) a
  case pr.fst t1 t2=>exact aS.vu (p:=p) (τ:=t1) a
  case pr.snd t1 t2=>exact aS.vu (p:=p) (τ:=t2) a
section
variable {E:dR} {C:dn} {st:aO} {a:Act} {A:acZ} {w:World} {I:Nat->Prop} {rt:Nat->ac1} {fp:Nat->ac7} {o:Oper} {Q:aO->Prop}
def IH:∀{p q:List aW},jf (p++[.deref]) q=true->jf p q=true
 |[],q,a=>by
  cases q with
  |nil=>cases a
  |cons s q=>
   cases s<;>cases a
 |s::p,[],a=>by cases s<;>cases a
 |s::p,b::q,a=>by cases s<;>cases b<;>first|(cases a;done)|exact IH (p:=p) (q:=q) a|rfl
def br.BS (y:br C st A w I rt fp) {id:Nat} (p:au st.h id=some G) {av:Loc} {R:ac1} (W:aS w G.1 none (rt id) j x av R) {am:List (Int×n.den)} (d1:c4 G.1 G.2 j (.mp n) (some (am,b))):∃c K H,R=[.map (some c)]/\c∈fp id/\(∀q a,ba I C.B q a->a≠c)/\fq (ba I C.B) w n c am b K H/\∀{k:Array MapEntry} {e:Nat} {F:List (Int×n.den)} {Q:List (Int×Nat×n.den)} {s:G.1.den},fq (ba I C.B) (eY w c k e) n c F e k Q->i7 w (eY w c k e) c->dA G.1 G.2 j (.mp n) (some (F,e)) s->∃ft bl,br C ⟨kill [id] [(id,j++[.deref])] st.g,(id,⟨G.1,s⟩)::del [id] st.h⟩ A (eY w c k e) I ft bl:=by
 obtain⟨d9,M,T⟩:=y.tree id G p;obtain⟨f9,f1,f4,fs,bs,ce,ci,v,f5,co,cs⟩:=xj j (loc:=none) d9 (λ_ _ l=>by cases l) M (λ_ _ l=>by cases l) (y.notM p) d1;obtain⟨a3,al,J⟩:=W.ij bs;subst a3;subst al;subst J;obtain⟨c,K,H,rfl,rfl,L⟩:=ce.Ku;have z:c∈fp id:=v.mem_iff.2 ab;have S:∀q a,ba I C.B q a->a≠c:=λq a d f=>y.notM p c z q (f▸d);refine⟨c,K,H,rfl,z,S,L,?_⟩;intro k e F Q s dl ds Z;have X:=v.nodup_iff.1 M;rw[hC] at X;have Y:∀a∈fs,a≠c:=λa d f=>X.2.2 c ab a d f.symm;have D:=XT (es':=k) (c':=e) L.h;have d0:=XU (es':=k) (c':=e) L.h;have ad:∀a,a≠c->bN w (eY w c k e) a:=λa d=>Cx d;obtain⟨f3,a4,el,_,em,_,O,_,f7⟩:=co (eY w c k e) (ba I C.B) [.map (some c)] (some (F,e)) [c] s (λ_ _ l=>l) (λa d=>by
   have d3:a≠c:=by
    rcases d with⟨q,d4⟩|d|⟨o,d7⟩
    ·exact S q a d4
    ·exact Y a d
    cases d7
   exact⟨λu _=>D _,λu=>d0 _,λu=>by rw[D],(ad a d3).2⟩)
  (aP.Kv dl) (λ_ _=>rfl) (λa0 eq f=>by
   have:=(ci a0 eq f).1;exactλu ap t=>by rw[D];exact this u ap t) Z
 obtain rfl:=em rfl (.inr rfl);have f6:=(T c z).2.2.1;have i:lA C st w (eY w c k e) I I rt fp [id] [(id,j++[.deref])] [(id,⟨G.1,s⟩)] (λ_=>rt id) (λ_=>a4):=by
  refine⟨by rw[MZ];exact a6 _,rfl,rfl,rfl,?_,?_,λ_ l=>l,λ_ l=>.inl l,?_,?_,?_,?_⟩
  ·intro a _ d;exact yo (λf=>d id ab G p (f▸z))
  ·intro a _;by_cases f:a=c
   ·subst f;exact ds
   exact .of_heap (yo f)
  ·intro N P i;rw[bU] at i;split at i
   ·rename_i f;subst f;cases i;refine⟨.inl ab,el,?_,λa d=>?_⟩
    ·rw[O.nodup_iff,<-v.nodup_iff];exact M
    have V:a∈fp id:=v.mem_iff.2 (O.mem_iff.1 d);obtain⟨aw,ex,fn,ge⟩:=T a V;exact⟨aw,by rw[MZ];exact fn,.inr ⟨id,ab,G,p,V⟩⟩
   cases i
  ·intro N u P ap m t d2;rw[bU] at m t;split at m
   ·split at t
    ·rename_i al J;exact absurd (al.symm.trans J) d2
    cases t
   cases m
  ·intro N m P i;simp only[ed] at m;subst m;rw[p] at i;obtain rfl:=ee i;refine⟨⟨G.1,s⟩,by rw[bU,aj rfl],rfl,rfl,?_,λan gl gc f0 _ d8=>d8.cells D⟩;have cv:=W.vu (r:=[.deref]);have:∃fz,dF (.mp n) [.deref]=some fz:=⟨n,YP n⟩;rw[cv];exact this
  intro N m P i an gi gf f8 fT f2 E d6 d5 U ek;simp only[ed] at m;subst m;rw[p] at i;obtain rfl:=ee i;have E:=IH E;refine⟨⟨G.1,s⟩,by rw[bU,aj rfl],sf E Z U,λa d=>?_⟩;obtain⟨aw,ex⟩:=cs an _ _ _ _ _ E (by exact d6) U d5 ek a d;exact⟨O.mem_iff.2 (kU _ aw),ad a (Y a aw)⟩
 exact⟨_,_,y.eI i⟩
def px {α:Type} (c:Option (List (Int×α)×Nat)) (b:Int) (d:α):Option (Option (List (Int×α)×Nat)):=match c with
 |none=>none
 |some a=>some (some (g8 a.1 b d,bif (eg a.1 b).isSome then a.2 else a.2+1))
def mB {f:Type} (tt:List (TypeId×ai)) (i:List (Nat×aH)) (h:TypeId) (n d m:ao) (g:bm->Option f):Option f:=
 match n with
 |.ref id c=>match au i id with
  |some a=>match jo tt h,d,m with
   |some l,.val (.int .i64) d,.val p e=>match dF a.1 c with
    |some (.mp b)=>bif a1 l b then match gv b e with
     |some e=>(gg a.1 a.2 c (.mp b)).bind λj=>(px (α:=b.den) j d e).bind λk=>(kJ a.1 a.2 c (.mp b) k).bind λo=>g ⟨none,[id],[(id,c++[.deref])],[(id,⟨a.1,o⟩)]⟩
     |none=>none
     else none
    |_=>none
   |_,_,_=>none
  |none=>none
 |_=>none
def SH {α:Type} (c:Option (List (Int×α)×Nat)) (b:Int):Option (Option (List (Int×α)×Nat)):=match c with
 |none=>none
 |some a=>some (some (hz a.1 b,a.2))
def pz {e:Type} (tt:List (TypeId×ai)) (h:List (Nat×aH)) (g:TypeId) (l d:ao) (f:bm->Option e):Option e:=
 match l with
 |.ref id b=>match au h id with
  |some a=>match jo tt g,d with
   |some k,.val (.int .i64) d=>match dF a.1 b with
    |some (.mp c)=>bif a1 k c then
     (gg a.1 a.2 b (.mp c)).bind λi=>(SH (α:=c.den) i d).bind λj=>(kJ a.1 a.2 b (.mp c) j).bind λm=>f ⟨none,[id],[(id,b++[.deref])],[(id,⟨a.1,m⟩)]⟩
     else none
    |_=>none
   |_,_=>none
  |none=>none
 |_=>none
def KB {D:Type} {A:D} {s:bm->Option D} {f e:Operand} (j:o.op=.mapUpdate c f m e\/o.op=.insert c f m e) (T:o.dst=none) (b:mB E.tt st.h c (aR st.g f) (aR st.g m) (aR st.g e) s=some A):dk E C o st (λco=>∃u,s u=some A/\co=u.app st):=by
 rintro a w ⟨I,rt,fp,i⟩ next d3 X
 have q:=i.aR f;have d:=i.aR m;have p:=i.aR e;unfold mB at b;split at b
 case h_2=>cases b
 rename_i id d7 J;split at b
 case h_2=>cases b
 rename_i fn y;split at b
 case h_2=>cases b
 rename_i dl k ex em S F H;obtain⟨ds,d2,cs,cv,d8⟩:=jo.ok S;split at b
 case h_2=>cases b
 rename_i r Z;cases n:a1 dl r with
 |false=>rw[n] at b;cases b
 |true=>
 rw[n] at b;simp only[cond_true] at b;split at b
 case h_2=>cases b
 rename_i el an;obtain⟨a3,V,L⟩:=bZ.1 b;obtain⟨d6,v,M⟩:=bZ.1 L;obtain⟨eq,ap,N⟩:=bZ.1 M;cases a3 with
 |none=>cases v
 |some a4=>
 obtain⟨av,t⟩:=a4;cases v;cases iR an;rw[J] at q;rw[F] at d;rw[H] at p;generalize am:a.eval f=ek at q;generalize W:a.eval m=d5 at d;generalize ad:a.eval e=d9 at p;cases d with|val ce=>
 obtain⟨_,rfl⟩:=ce;cases p with|val B=>
 cases q with|ref z x=>
 rw[y] at z;cases z;obtain⟨l,d4,d0,rfl,n,Q,O,U⟩:=i.BS y x (g5 V);have:=x.ty;rw[Z] at this;cases this;obtain⟨G,d1,aw,bl,bs⟩:=O.update (P:=E.P) cs cv k B.len B;obtain⟨ci,K,R⟩:=U (bl (λa0 m d=>⟨d,Q a0 m d⟩)) bs (lg ap);unfold Oper.wp;have Y:(execOp a.eval o).run E.P w=.ok .skip (eY w l G (bif (eg av k).isSome then t else t+1)):=by
  have this:∀r:ai,bG (.mp r) [Value.map (some l)]=.map (some l):=λ_=>rfl;rcases j with j|j<;>
  ·simp only[execOp,j,am,W,ad,Sem.run_bind];rw[this,show bG (.int .i64) [Value.int .i64 k]=.int .i64 k from rfl,aw];rfl
 rw[Y];show next (a.put o.dst undef) _
 rw[T];refine X _ _ _ ⟨_,N,?_⟩ rfl ⟨I,ci,K,R⟩;rfl
def SR {y:Type} {x:y} {p:bm->Option y} {e:Operand} (U:o.op=.call {callee:=.builtin .delete,args:=#[e,m],argTypes:=#[c,q]}) (O:o.dst=none) (b:pz E.tt st.h c (aR st.g e) (aR st.g m) p=some x):dk E C o st (λa3=>∃r,p r=some x/\a3=r.app st):=by
 rintro a w ⟨I,rt,fp,i⟩ next cv T
 have k:=i.aR e;have d:=i.aR m;unfold pz at b;split at b
 case h_2=>cases b
 rename_i id d2 D;split at b
 case h_2=>cases b
 rename_i d6 u;split at b
 case h_2=>cases b
 rename_i bs l N A;obtain⟨ce,cs,a4,bl,d3⟩:=jo.ok N;split at b
 case h_2=>cases b
 rename_i n W;cases j:a1 bs n with
 |false=>rw[j] at b;cases b
 |true=>
 rw[j] at b;simp only[cond_true] at b;obtain⟨ad,R,G⟩:=bZ.1 b;obtain⟨d1,s,H⟩:=bZ.1 G;obtain⟨d5,Y,J⟩:=bZ.1 H;cases ad with
 |none=>cases s
 |some am=>
 obtain⟨d0,z⟩:=am;cases s;rw[D] at k;rw[A] at d;generalize X:a.eval e=d4 at k;generalize S:a.eval m=ds at d;cases d with|val av=>
 obtain⟨_,rfl⟩:=av;cases k with|ref v t=>
 rw[u] at v;cases v;obtain⟨f,dl,ci,rfl,j,L,K,Q⟩:=i.BS u t (g5 R);have:=t.ty;rw[W] at this;cases this;obtain⟨B,co,aw,an,ap⟩:=K.delete (P:=E.P) a4 bl l o.type q;obtain⟨a0,F,M⟩:=Q (an (λZ m d=>⟨d,L Z m d⟩)) ap (lg Y);unfold Oper.wp;have V:(execOp a.eval o).run E.P w=.ok (.value (.tuple #[])) (eY w f B z):=(by simp only[execOp,U,resolve,invoke,builtin,Sem.run_bind,Sem.run_pure,Result.andThen_ok,vO,eo,p5,X,S];have this:∀n:ai,bG (.mp n) [Value.map (some f)]=.map (some f):=λ_=>rfl;rw[this,show bG (.int .i64) [Value.int .i64 l]=.int .i64 l from rfl,aw];rfl);rw[V];show next (a.put o.dst (.tuple #[])) _
 rw[O];refine T _ _ _ ⟨_,J,?_⟩ rfl ⟨I,a0,F,M⟩;rfl
def sU (c:List (Nat×aH)) (f g:ao):Option (Nat×List aW×Nat×aH):=match f,g with
 |.ref id (e::d),.ref a []=>match au c a with
  |some b=>match b.1 with
   |.osl h=>match h.pure with
    |true=>none
    |false=>some (id,e::d,a,b)
   |_=>none
  |none=>none
 |_,_=>none
def v5 {h:Type} (tt:List (TypeId×ai)) (e:List (Nat×aH)) (b:Nat) (j:TypeId) (id:Nat) (c:List aW) (f:Nat) (k:aH) (i:bm->Option h):Option h:=
 match eX tt j,au e id,au e b with
 |some l,some d,none=>match dF d.1 c with
  |some (.osl a)=>match gv (.osl a) k.2 with
   |some g=>bif a1 l a&&(Nat.ble a.size 1300&&(a.il&&!(Nat.beq f id))) then
    (gg d.1 d.2 c (.osl a)).bind λm=>(bJ (List.length (α:=a.den) m+List.length (α:=a.den) g)).bind λ_=>i ⟨some (b,.app id c a g [b,f]),[id],[(id,c),(id,[])],[(b,⟨.c6,()⟩),(id,d)]⟩
    else none
   |none=>none
  |_=>none
 |_,_,_=>none
def mf {g:Type} (tt:List (TypeId×ai)) (h:List (Nat×ai)) (a:List (Nat×aH)) (d:Nat) (c:TypeId) (e f:ao) (b:bm->Option g):Option g:=match sU a e f with
 |some (id,j,i,k)=>v5 tt a d c id j i k b
 |none=>mY tt h a d c e f b
def FX {id:Nat} (a:sU e d t=some (id,j,b,G)):d=.ref id j/\t=.ref b []/\au e b=some G:=by
 unfold sU at a;split at a
 ·split at a
  ·rename_i f c;split at a
   ·split at a
    ·cases a
    cases a;exact⟨rfl,rfl,c⟩
   cases a
  cases a
 cases a
def Pb {K:Type} {F:K} {s:bm->Option K} {H:Operand} (z:o.op=.call {callee:=.builtin .append,args:=#[H,m],argTypes:=#[c,c]}) (v:o.dst=some b) (x:C.ok b) (d:mf E.tt k st.h b c (aR st.g H) (aR st.g m) s=some F):dk E C o st (λbl=>∃e,s e=some F/\bl=e.app st):=by
 unfold mf at d;split at d
 case h_2=>exact dk.app z v x (O8 d (λe q=>⟨e,q,rfl⟩))
 rename_i id ds i bs ad;obtain⟨R,S,n⟩:=FX ad;unfold v5 at d;split at d
 case h_2=>cases d
 rename_i ce d5 P an Q;split at d
 case h_2=>cases d
 rename_i j cs;split at d
 case h_2=>cases d
 rename_i d3 av;cases f:(a1 ce j&&(Nat.ble j.size 1300&&(j.il&&!(Nat.beq i id)))) with
 |false=>rw[f] at d;cases d
 |true=>
 rw[f] at d;simp only[bc] at f;obtain⟨V,am,Y,l⟩:=f;have l:i≠id:=λe=>(by subst e;rw[p7] at l;cases l);obtain⟨d2,ap,N⟩:=bZ.1 d;obtain⟨_,W,O⟩:=bZ.1 N;obtain⟨d4,J⟩:=bs;cases iR av;rintro a w ⟨I,rt,fp,p⟩ next ci Z
 refine HN (S2:=[i]) z v x p Z P V (eM am) Y R an Q (g5 ap) ?_ ?_ (uU W) ⟨_,O,rfl⟩
 ·have r:=p.aR m;rw[S] at r;generalize cv:a.eval m=d1 at r;cases r with|ref D X=>
  rw[n] at D;cases D;obtain⟨rfl,rfl,rfl⟩:=aS.eQ.1 X;obtain⟨G,a4,d0⟩:=p.tree i _ n;have a0:=G;obtain⟨t,u,A,co⟩:=a0;have a3:aP (ba I C.B) w (.osl j) [.slice t (List.length (α:=j.den) J) u] J (fp i):=(by rw[<-A];exact G);obtain⟨_,_,M,q,T,U,_⟩:=iG.osl a3;exact⟨t,u,M,by rw[A];rfl,q,U a4,λL f=>⟨i,ab,_,n,T L f⟩⟩
 intro dl y;simp only[ed] at y;subst y;exact⟨l,_,n⟩
end
end
section
section
variable {P:Program} {w:World} {b c:Nat} {A:Array MapEntry} {M:c5->Nat->Prop} {t:ai} {l:List (Int×t.den)} {L:List (Int×Nat×t.den)}
def Gq {d f:Array MapEntry} {e:Nat} (g:w.heap[b]?=some (.map A c)) (h:eY w b d W=eY w b f e):d=f/\W=e:=by have a:=lT (es':=d) (c':=W) g;rw[h,lT g] at a;simp only[bF,Obj.map.injEq] at a;exact⟨a.1.symm,a.2.symm⟩
def fq.HX (f:fq M w t b l c A L) (h:A[W]?=some O):∃d a,L[W]?=some d/\O=⟨.int .i64 d.1,bG t a,d.2.1⟩:=by have i:W<L.length:=(by have:=(lY.1 h).1;rw[f.n] at this;exact this);obtain⟨a,_,g,_⟩:=f.e W L[W] (a9 i);rw[h] at g;exact⟨L[W],a,a9 i,ee g⟩
def fq.YV (h:fq M w t b l c A L) {a:Nat} {e f:Int×Nat×t.den} (d:L[W]?=some e) (m:L[a]?=some f) (g:e.1=f.1):W=a:=by have n:=h.nk.u6;have k:W<(L.map (·.1)).length:=(by have:=(ec.1 d).1;simpa using this);apply(List.getElem?_inj k n (i:=W) (j:=a)).1;rw[eT,eT,d,m];simp[g]
def fq.YU (h:fq M w t b l c A L) {d:Nat} {f a:Int×Nat×t.den} (e:L[W]?=some f) (m:L[d]?=some a) (g:f.2.1=a.2.1):W=d:=by have n:=h.nk.2.2.1;have k:W<(L.map λa=>a.2.1).length:=(by have:=(ec.1 e).1;simpa using this);apply(List.getElem?_inj k n (i:=W) (j:=d)).1;rw[eT,eT,e,m];simp[g]
def Kt {c:Array a} {d e:a->a} (f:∀b,c[W]?=some b->d b=e b):c.modify W d=c.modify W e:=by
 apply Array.ext_getElem?;intro i;rw[pV,pV];split
 ·rename_i b;subst b;cases g:c[W]? with
  |none=>rfl
  |some h=>simp[f h g]
 rfl
def fq.entry (d:fq M w t b l c A L) {B z:TypeId} {R:IntKind} (n:P.underlying q=some (.map B z)) (g:P.underlying B=some (.int R)) (a:Int) {y:t.den} (O:E.length=t.size) (I:aP M w t E y []) (Q:∀w,(zeroValue z).run P w=.ok (bG t E) w):∃(f:Array MapEntry) (o:List (Int×Nat×t.den)) (v:ac1) (p e:Nat),(Instr.mapEntry q (.map (some b)) (.int .i64 a)).run P w=.ok (.tuple #[bG t v,goInt ((p:Nat):Int)]) (eY w b f (bif (eg l a).isSome then c else c+1))/\aP M w t v ((eg l a).getD y) []/\f[e]?=some (MapEntry.mk (.int .i64 a) (bG t v) p)/\(∀{C:c5->Nat->Prop},(∀J a,M J a->C J a/\a≠b)->fq C (eY w b f (bif (eg l a).isSome then c else c+1)) t b (g8 l a ((eg l a).getD y)) (bif (eg l a).isSome then c else c+1) f o)/\i7 w (eY w b f (bif (eg l a).isSome then c else c+1)) b:=by
 rcases d.find (P:=P) g a with⟨x,N,s⟩|⟨e,p,T,r,x,N,s,u,D,F⟩
 ·obtain⟨f,o,aw,i,j⟩:=d.update (P:=P) n g a O I;rw[x] at aw i j|-;simp only[Option.isSome_none,cond_false,Option.getD_none] at aw i j|-;have k:(Instr.mapUpdate q (.map (some b)) (.int .i64 a) (bG t E)).run P w=.ok () (eY w b (A.push ⟨.int .i64 a,bG t E,c⟩) (c+1)):=by
   simp only[Instr.mapUpdate,Sem.run_bind,run_underlying n,Result.andThen_ok,run_getObj_map d.h,mH g,s];exact oA d.h
  rw[aw] at k;simp only[Result.ok.injEq,true_and] at k;obtain⟨rfl,_⟩:=Gq d.h k;refine⟨_,o,E,c,A.size,?_,I,by rw[vC,aj rfl],i,j⟩;simp only[Instr.mapEntry,Sem.run_bind,run_underlying n,Result.andThen_ok,run_getObj_map d.h,mH g,s,Q,oA d.h,Sem.run_pure];rfl
 obtain⟨f,o,aw,i,j⟩:=d.update (P:=P) n g a s D;rw[x] at aw i j|-;simp only[yX,cond_true,ig] at aw i j|-;have H:(Instr.keyThatStays (((A[e]?).map (·.key)).getD (.int .i64 a)) (.int .i64 a)).run P w=.ok (.int .i64 a) w:=(by rw[u];simp[Instr.keyThatStays,Instr.sameBits]);have k:(Instr.mapUpdate q (.map (some b)) (.int .i64 a) (bG t r)).run P w=.ok () (eY w b (A.modify e λm=>{m with key:=.int .i64 a,val:=bG t r}) c):=(by simp only[Instr.mapUpdate,Sem.run_bind,run_underlying n,Result.andThen_ok,run_getObj_map d.h,mH g,F,H];exact oA d.h);rw[aw] at k;simp only[Result.ok.injEq,true_and] at k;obtain⟨rfl,_⟩:=Gq d.h k;refine⟨_,o,r,p,e,?_,D,by rw[pV,aj rfl,u];rfl,i,j⟩;have al:(A.modify e λm=>{m with key:=.int .i64 a,val:=bG t r})=A.modify e λm=>{m with key:=.int .i64 a}:=Kt λm G=>(by rw[u] at G;cases G;rfl);have K:((A[e]?).map λS=>((S.born:Nat):Int)).getD 0=(p:Int):=(by rw[u];rfl);simp only[Instr.mapEntry,Sem.run_bind,run_underlying n,Result.andThen_ok,run_getObj_map d.h,mH g,F,H,oA d.h,Sem.run_pure,al,K];rfl
def fq.QE (d:fq M w t b l c A L) {a:Int} (i:A[W]?=some O) (o:O.key=.int .i64 a) {y J:TypeId} {ap:IntKind} (C:P.underlying q=some (.map y J)) (n:P.underlying y=some (.int ap)) {I:t.den} (T:E.length=t.size) (an:aP M w t E I []):∃f k,(Instr.entryStore q (.map (some b)) (.int .i64 (O.born:Int)) (bG t E)).run P w=.ok () (eY w b f (bif (eg l a).isSome then c else c+1))/\(∀{z:c5->Nat->Prop},(∀G a,M G a->z G a/\a≠b)->fq z (eY w b f (bif (eg l a).isSome then c else c+1)) t b (g8 l a I) (bif (eg l a).isSome then c else c+1) f k)/\i7 w (eY w b f (bif (eg l a).isSome then c else c+1)) b:=by
 obtain⟨j,a4,p,D⟩:=d.HX i;have F:j.1=a:=(by rw[D] at o;simpa using o);rcases d.find (P:=P) n a with⟨B,m,K⟩|⟨e,cv,dl,a3,B,m,K,N,bs,Q⟩
 ·exact absurd F (m j (kt p))
 obtain rfl:e=W:=d.YV m p (by simp[F]);obtain⟨f,k,aw,u,v⟩:=d.update (P:=P) C n a T an;rw[B] at aw u v|-;simp only[yX,cond_true] at aw u v|-;have Z:(Instr.keyThatStays (((A[e]?).map (·.key)).getD (.int .i64 a)) (.int .i64 a)).run P w=.ok (.int .i64 a) w:=(by rw[N];simp[Instr.keyThatStays,Instr.sameBits]);have x:(Instr.mapUpdate q (.map (some b)) (.int .i64 a) (bG t E)).run P w=.ok () (eY w b (A.modify e λO=>{O with key:=.int .i64 a,val:=bG t E}) c):=(by simp only[Instr.mapUpdate,Sem.run_bind,run_underlying C,Result.andThen_ok,run_getObj_map d.h,mH n,Q,Z];exact oA d.h);rw[aw] at x;simp only[Result.ok.injEq,true_and] at x;obtain⟨rfl,_⟩:=Gq d.h x;refine⟨_,k,?_,u,v⟩;have al:(A.modify e λO=>{O with key:=.int .i64 a,val:=bG t E})=A.modify e λO=>{O with val:=bG t E}:=Kt λbl g=>(by rw[i] at g;cases g;rw[<-o]);have V:A.findIdx? (λav=>(av.born:Int)==(O.born:Int))=some e:=by
  rw[Array.findIdx?_eq_some_iff_getElem];have X:=(lY.1 i).1;refine⟨X,?_,λr cs ad=>?_⟩
  ·rw[(lY.1 i).2];simp
  have Y:r<A.size:=U;obtain⟨H,a0,am,g⟩:=d.HX (vB Y);have co:(A[r].born:Int)=(O.born:Int):=(by simpa using ad);have S:H.2.1=j.2.1:=(by have ce:A[r].born=H.2.1:=(by rw[g]);have ci:O.born=j.2.1:=(by rw[D]);omega);have:=d.YU am p S;omega
 have R:∀(s:Int) (w:World),(asInt (.int .i64 s)).run P w=.ok s w:=λs w=>(by simp[asInt,asIntOf]);simp only[Instr.entryStore,Sem.run_bind,Sem.run_pure,Result.andThen_ok,run_getObj_map d.h,R,V,oA d.h,al];rfl
end
def pA {f:Type} (tt:List (TypeId×ai)) (j:List (Nat×aH)) (i:Nat) (h:TypeId) (m a:ao) (g:bm->Option f):Option f:=
 match m with
 |.ref id c=>match au j id with
  |some b=>match jo tt h,a with
   |some l,.val (.int .i64) a=>match dF b.1 c with
    |some (
     .mp t)=>match ko t with
     |some e=>bif a1 l t then
      (gg b.1 b.2 c (.mp t)).bind λd=>(px (α:=t.den) d a ((iC d a).getD e)).bind λk=>(kJ b.1 b.2 c (.mp t) k).bind λn=>
       g ⟨some (i,.dv [.val t ((iC (α:=t.den) d a).getD e),.iV id c a]),[id],[(id,c++[.deref])],[(id,⟨b.1,n⟩)]⟩
      else none
     |none=>none
    |_=>none
   |_,_=>none
  |none=>none
 |_=>none
def pk {b:Type} (tt:List (TypeId×ai)) (e:List (Nat×aH)) (d:TypeId) (k i j:ao) (c:bm->Option b):Option b:=
 match k,i with
 |.ref id a,.iV f h g=>bif Nat.beq f id&&j0 h a then mB tt e d (.ref id a) (.val (.int .i64) g) j c else none
 |_,_=>none
def dA.jk:∀{p:List aW} {τ:ai} {e g:τ.den} {d:ai} {f:d.den},dA τ e p d f g->c4 τ g p d f
 |[],τ,e,g,d,f,c=>by obtain⟨j,c⟩:=dA.eQ.1 c;exact c4.eQ.2 ⟨j,c⟩
 |s::p,τ,e,g,d,f,c=>by
  cases τ<;>cases s<;>simp only[dA] at c
  case osl.idx t i=>
   obtain⟨j,h,k,c,rfl⟩:=c;have l:i<e.length:=(ec.1 k).1;exact⟨h,by rw[ks l],dA.jk (p:=p) c⟩
  case optr.deref t=>exact dA.jk (p:=p) (τ:=t) c
  case st.unst t=>exact dA.jk (p:=p) (τ:=t) c
  case pr.fst a b=>obtain⟨h,c,rfl⟩:=c;exact dA.jk (p:=p) c
  case pr.snd a b=>obtain⟨h,c,rfl⟩:=c;exact dA.jk (p:=p) c
def JS:∀a:List aW,fj (a++[.deref]) a=true
 |[]=>rfl
 |s::a=>by cases s<;>exact JS a
def Se (id:Nat) (a:List aW):ef [id] [(id,a++[.deref])] (.ref id a)=.ref id a:=by
 have:jR [(id,a++[.deref])] (.ref id a)=true:=by
  cases a with
  |nil=>simp[jR]
  |cons b a=>
   have:=JS (b::a);simp only[jR,List.any_cons,List.any_nil,Bool.or_false,p7,Bool.true_and];exact this
 show dr _ _ _=_;unfold dr;rw[show hM [id] [(id,a++[.deref])] (.ref id a)=jR [(id,a++[.deref])] (.ref id a) from rfl,this];simp
def V8 {id:Nat} (a:aR D m=.ref id j):aR (kill [id] [(id,j++[.deref])] D) m=.ref id j:=by
 cases m with
 |tmp c=>
  have a:gt D c=.ref id j:=a;have b:=nf [id] [(id,j++[aW.deref])] D c;rw[a] at b;exact b.trans (Se id j)
 |const d=>exact absurd a (by cases d<;>simp[aR])
 |global D=>cases a
 |func e=>cases a
section
variable {E:dR} {C:dn} {st:aO} {o:Oper} {Q:aO->Prop}
def SZ {a:Act} {e:Nat->Prop} (k:br C i a.tmps v e y z) {id:Nat} (r:aR i.g m=.ref id j) (c:au i.h id=some G) {t:ai} {I:List (Int×t.den)} (x:c4 G.1 G.2 j (.mp t) (some (I,l))) {b:Nat} (H:a.eval m=.map (some b)) {f:Array MapEntry} (D:v.heap[b]?=some (.map f l)) (A:f[W]?=some O) {n:Int} (u:O.key=.int .i64 n):bC (ba e C.B) v i.h y z (.iV id j n) (.int .i64 (O.born:Int)):=by
 have d:=k.aR (a:=a) m;rw[r,H] at d;generalize F:Value.map (some b)=S at d;cases d with|ref p o=>
 rename_i R T Q L;rw[c] at p;obtain rfl:=ee p;obtain⟨rfl,N,E,_,w⟩:=k.jk c x o;rcases E.Fm with⟨O,_⟩|⟨q,P,K,M,J,_,rfl,rfl,_⟩
 ·cases O
 have s:b=q:=(by simpa[bG] using F);subst s;exact .iV c o (w b ab) (lL.2 D) A u
def S0 {V:a} {z:bm->Option a} {p:Operand} (cv:o.op=.mapEntry q p m) (a3:o.dst=some W) (a0:C.ok W) (d:pA E.tt st.h W q (aR st.g p) (aR st.g m) z=some V):dk E C o st (λy=>∃G,z G=some V/\y=G.app st):=by
 rintro j w ⟨r,ge,f5,s⟩ next f4 cs
 have v:=s.aR p;have e:=s.aR m;unfold pA at d;split at d
 case h_2=>cases d
 rename_i id d5 I;split at d
 case h_2=>cases d
 rename_i Z Q;split at d
 case h_2=>cases d
 rename_i fp n ap am;obtain⟨f2,ad,eq,ex,fn⟩:=jo.ok ap;split at d
 case h_2=>cases d
 rename_i t d0;split at d
 case h_2=>cases d
 rename_i fs d1;cases u:a1 fp t with
 |false=>rw[u] at d;cases d
 |true=>
 rw[u] at d;simp only[cond_true] at d;obtain⟨d4,bs,f⟩:=bZ.1 d;obtain⟨gc,k,i⟩:=bZ.1 f;obtain⟨Y,T,J⟩:=bZ.1 i;clear d f i;cases d4 with
 |none=>cases k
 |some d6=>
 obtain⟨l,c⟩:=d6;rw[I] at v;rw[am] at e;generalize S:j.eval p=gi at v;generalize ci:j.eval m=f9 at e;cases e with|val el=>
 obtain⟨_,rfl⟩:=el;cases v with|ref R O=>
 rw[Q] at R;cases R;obtain⟨b,A,L,rfl,f6,M,K,bl⟩:=s.BS Q O (g5 bs);have:=O.ty;rw[d0] at this;cases this;obtain⟨f8,f1,ft,fz,fT,f0⟩:=tk (fn.lay u) d1;have d2:∀w,(zeroValue ad).run E.P w=.ok (bG t f1.cells.toList) w:=λw=>(by rw[<-fT];simp[zeroValue,typeInfo,ft,fz]);have U:=f0 (ba r C.B) w;obtain⟨H,f3,F,y,f7,aw,d7,d8,d9,ek⟩:=K.entry (P:=E.P) eq ex n U.len U d2;have co:iC (α:=t.den) (some (l,c)) n=eg l n:=rfl;rw[co] at k J;simp only[px,bF] at k;subst k;generalize(bif (eg l n).isSome then c else c+1)=D at*;generalize(eg l n).getD fs=X at*;obtain⟨em,an,N⟩:=bl (d9 (λx m e=>⟨e,M x m e⟩)) ek (lg T);have ds:(execOp j.eval o).run E.P w=.ok (.value (.tuple #[bG t F,goInt ((y:Nat):Int)])) (eY w b H D):=(by simp only[execOp,cv,S,ci,Sem.run_bind];have this:∀t:ai,bG (.mp t) [Value.map (some b)]=.map (some b):=λ_=>rfl;rw[this,show bG (.int .i64) [Value.int .i64 n]=.int .i64 n from rfl,aw];rfl);unfold Oper.wp;rw[ds];show next (j.put o.dst _) _
 rw[a3];have ce:au ((id,(⟨Z.1,Y⟩:aH))::del [id] st.h) id=some ⟨Z.1,Y⟩:=(by rw[bU,aj rfl]);have dl:aP (ba r C.B) (eY w b H D) t F X []:=d7.mono (λx m e=>⟨e,Cx (M x m e)⟩) ab;have a4:=SZ N (V8 I) ce (dA.jk (lg T)) S (lT K.h) d8 (n:=n) rfl;refine cs _ _ _ ⟨_,J,?_⟩ rfl ⟨r,em,an,N.put a0 (av:=.dv [.val t X,.iV id d5 n]) ?_⟩
 ·rfl
 refine .dv rfl (λd3 av gf f i=>?_)
 match d3 with
 |0=>simp at f i;subst f;subst i;exact .val dl
 |1=>simp at f i;subst f;subst i;exact a4
 |n+2=>simp at f
def QJ {N:a} {x:bm->Option a} {k j:Operand} (bl:o.op=.entryStore q k m j) (am:o.dst=none) (d:pk E.tt st.h q (aR st.g k) (aR st.g m) (aR st.g j) x=some N):dk E C o st (λm=>∃y,x y=some N/\m=y.app st):=by
 rintro e w ⟨Q,f1,fs,i⟩ next fp a4
 have v:=i.aR k;have r:=i.aR m;have u:=i.aR j;unfold pk at d;split at d
 case h_2=>cases d
 rename_i id d4 ds d5 d3 V T;cases f:(Nat.beq ds id&&j0 d5 d4) with
 |false=>rw[f] at d;cases d
 |true=>
 rw[f] at d;rw[bc] at f;obtain rfl:=ep f.1;obtain rfl:=j0.ok f.2;simp only[cond_true] at d;unfold mB at d;simp only at d;split at d
 case h_2=>cases d
 rename_i gc s;split at d
 case h_2=>cases d
 rename_i em f0 f9 f7 ad B U;simp only[ao.val.injEq,heq_eq_eq,true_and] at B;subst B;obtain⟨eq,fn,ek,el,f3⟩:=jo.ok ad;split at d
 case h_2=>cases d
 rename_i t ci;cases H:a1 em t with
 |false=>rw[H] at d;cases d
 |true=>
 rw[H] at d;simp only[cond_true] at d;split at d
 case h_2=>cases d
 rename_i f6 cv;obtain⟨d2,ap,D⟩:=bZ.1 d;obtain⟨fT,n,F⟩:=bZ.1 D;obtain⟨f8,dl,X⟩:=bZ.1 F;clear d D F;cases d2 with
 |none=>cases n
 |some d6=>
 obtain⟨l,c⟩:=d6;cases iR cv;rw[V] at v;rw[T] at r;rw[U] at u;generalize cs:e.eval k=f5 at v;generalize ce:e.eval m=f2 at r;generalize co:e.eval j=f4 at u;cases u with|val O=>
 cases r with|iV M a3 ft J av a0=>
 rw[s] at M;cases M;cases v with|ref K p=>
 rw[s] at K;cases K;obtain⟨b,A,L,rfl,fz,Y,G,an⟩:=i.BS s p (g5 ap);have:=p.ty;rw[ci] at this;cases this;obtain⟨al,_,z⟩:=p.ij a3;simp only[fJ,Value.map.injEq,bF,and_true] at z;subst z;rw[lL.2 G.h] at J;cases J;obtain⟨S,ex,aw,d7,d8⟩:=G.QE (P:=E.P) av a0 ek el O.len O;simp only[px,bF] at n;subst n;generalize(bif (eg l d3).isSome then c else c+1)=R at*;obtain⟨d9,W,Z⟩:=an (d7 (λd1 d0 I=>⟨I,Y d1 d0 I⟩)) d8 (lg dl);unfold Oper.wp;have bs:(execOp e.eval o).run E.P w=.ok .skip (eY w b S R):=(by have this:∀t:ai,bG (.mp t) [Value.map (some b)]=.map (some b):=λ_=>rfl;simp only[execOp,bl,cs,ce,co,Sem.run_bind];rw[this,aw];rfl);rw[bs];show next (e.put o.dst undef) _
 rw[am];refine a4 _ _ _ ⟨_,X,?_⟩ rfl ⟨Q,d9,W,Z⟩;rfl
end
end
section
structure OX where
 c:Code
 n:Nat
 pin:Option ac7
 ds:ac7
 α:Type
 f:aO->Option α
 g:aO->α->aO
structure fo where
 tt:List (TypeId×ai)
 CG:List (Nat×hV)
 an:List (Nat×ai)
 n:Nat
 pin:ac7
 kg:List (Nat×ao)
 na:ac9
 X3:Option cR
 aF:ac0
 acS:List OX
 kh:List rH
def G4 (b:Program) (c:TypeId):Prop:=∃a e d,b.info? c=some a/\a.size=1/\a.zero=some e/\e.cells.size=1/\b.underlying c=some d/\(match d with|.struct _|.array _ _=>true|_=>false)=false
def xi:List fu->List ao->Bool
 |.c d _::a,.df b _::as=>Nat.beq b d&&xi a as
 |.c _ _::_,_=>false
 |_::a,_::as=>xi a as
 |_,_=>true
def qO:List (Nat×hV)->Nat->List ao->Option hV
 |[],_,_=>none
 |(k,F)::l,f,as=>bif Nat.beq k f&&(xi F.ps as&&(hT 0 F.ps).isNone) then some F else qO l f as
def E5:∀{e:List (Nat×hV)} {d:Nat} {as:List ao} {c:hV},qO e d as=some c->∃b,(b,c)∈e
 |[],_,_,_,a=>by cases a
 |(b,G)::e,d,as,c,a=>by
  simp only[qO] at a;cases f:(Nat.beq b d&&(xi G.ps as&&(hT 0 G.ps).isNone)) with
  |true=>rw[f] at a;cases a;exact⟨b,ab⟩
  |false=>
   rw[f] at a;obtain⟨h,g⟩:=E5 a;exact⟨h,by simp[g]⟩
def E6:∀{e:List (Nat×hV)} {d:Nat} {as:List ao} {c:hV},qO e d as=some c->hT 0 c.ps=none
 |[],_,_,_,a=>by cases a
 |(k,G)::e,d,as,c,a=>by
  simp only[qO] at a;cases b:(Nat.beq k d&&(xi G.ps as&&(hT 0 G.ps).isNone)) with
  |true=>
   rw[b] at a;cases a;simp only[bc] at b;exact Option.isNone_iff_eq_none.1 b.2.2
  |false=>
   rw[b] at a;exact E6 a
def si (ic:fo) (a:lx) (b:a.den):aO:=⟨ic.kg++mn a.g b,sh a.h (sj a.g b)⟩
def fC (b:Nat) (c:ac7) (a:Nat):Bool:=Nat.blt a b&&!(c9 a c)
def al (ic:fo) {A:Type} (a:Operand->ao) (g:List (Nat×aH)) (r:Oper) (c:bm->Option A):Option A:=
 match r.dst with
 |none=>match r.op with
  |.store d e v=>pN ic.tt g d (a e) (a v) c
  |.mapUpdate d e o v=>mB ic.tt g d (a e) (a o) (a v) c
  |.insert d e o v=>mB ic.tt g d (a e) (a o) (a v) c
  |.entryStore d e F v=>pk ic.tt g d (a e) (a F) (a v) c
  |.call {callee:=.builtin .delete,args:=xs,argTypes:=s}=>match xs.toList,s.toList with
   |[e,o],[d,_]=>pz ic.tt g d (a e) (a o) c
   |_,_=>none
  |_=>none
 |some b=>
  bif fC ic.n ic.pin b then
  match r.op with
  |.pick y e i=>match a y with
   |.val .bool j=>(match a e,a i with
    |.val k u,.val H v=>match gv (τ:=H) k v with
     |some v=>c ⟨some (b,.val k (bif j then u else v)),[],[],[]⟩
     |none=>none
    |u,v=>match j with
     |true=>c ⟨some (b,u),[],[],[]⟩
     |false=>c ⟨some (b,v),[],[],[]⟩)
   |_=>none
  |.call {callee:=.value z,args:=xs,argTypes:=_}=>match a z with
   |.df l m=>
    match qO ic.CG l (xs.toList.map a++m) with
    |none=>none
    |some h=>bif Nat.beq h.f l then
     iz g (pO (xs.toList.map a++m) h.ps) h.ps (xs.toList.map a++m) λq=>(h.vo q).bind λj=>bif lF b ⟨[],g⟩ (xs.toList.map a++m) (eO h.ps q j) (hl h.rs (gI h.ps j)) then
      c ⟨some (b,s4 b (hl h.rs (gI h.ps j))),eC (xs.toList.map a++m) (eO h.ps q j),uQ (kG (xs.toList.map a++m) (eO h.ps q j)),im (xs.toList.map a++m) (eO h.ps q j)++hm b (g7 (hl h.rs (gI h.ps j))) 0 (hl h.rs (gI h.ps j))⟩ else none
     else none
   |_=>none
  |.call {callee:=.builtin .append,args:=xs,argTypes:=s}=>match xs.toList,s.toList with
   |[e,i],[d,x]=>bif Nat.beq d x then mf ic.tt ic.an g b d (a e) (a i) c else none
   |_,_=>none
  |.call {callee:=.builtin .copy,args:=xs,argTypes:=s}=>match xs.toList,s.toList with
   |[e,i],[d,_]=>o2 ic.tt g b d (a e) (a i) c
   |_,_=>none
  |.assign e=>match a e with
   |.val k i=>c ⟨some (b,.val k i),[],[],[]⟩
   |.df l m=>c ⟨some (b,.df l m),[],[],[]⟩
   |.addr id E=>c ⟨some (b,.addr id E),[],[],[]⟩
   |.bQ v=>match au ic.an b with
    |none=>c ⟨some (b,.bQ v),[],[],[]⟩
    |some k=>match k.pure&&m2 k v with
     |true=>(he k v.cells.toList).bind λi=>c ⟨some (b,.val k i),[],[],[]⟩
     |false=>(n4 ic.an g b (.bQ v)).bind c
   |v=>(n4 ic.an g b v).bind c
  |.build d w=>qh ic.tt ic.an g a b d w.toList c
  |.mapEntry d e o=>pA ic.tt g b d (a e) (a o) c
  |.box d e=>rN ic.tt ic.an g b d (a e) c
  |.buildSlice d C w=>qj ic.tt ic.an g a b d C w.toList c
  |_=>match iW ic.tt ic.an g a b r.op with
   |.du t=>c ⟨some (b,t),[],[],[]⟩
   |.opt _ i l=>i.bind λp=>c ⟨some (b,l p),[],[],[]⟩
   |.new _ i G B=>bif Nat.beq B b then i.bind λp=>c ⟨some (b,.ref b []),[],[],[(b,G p)]⟩ else none
   |.no=>match e6 ic.tt ic.an g a b r.op with
    |.du t D=>c ⟨some (b,t),[],[],D⟩
    |.part _ I l=>(pick I).bind λp=>c ⟨some (b,(l p).1),[],[],(l p).2⟩
    |.bad=>none
  else none
def lG (b:List (Nat×aH)) (a:ac7):Bool:=a.all λid=>match au b id with|some c=>EG c.1|none=>false
def iw (ic:fo) {A:Type} (e:Operand->ao) (b:List (Nat×aH)) (c:Oper) (f:bm->Option A):Option A:=
 match kC ic.na (ss c) e (pR c.op) with
 |[]=>al ic e b c f
 |F=>bif lG b F then al ic (λh=>g4 b F (e h)) (del F b) c λa=>bif a.keep.all (λg=>!c9 g.1 F) then f ⟨a.d,F++a.S,a.keep,a.put⟩ else none else none
def mv:fu->Bool
 |.m _=>true
 |_=>false
def Gx (ic:fo) (a:Operand->ao) (e:Oper):Option (Nat×List aW):=match e.op with
 |.call {callee:=.value z,args:=xs,argTypes:=_}=>match a z with
  |.df d b=>match qO ic.CG d (xs.toList.map a++b) with
   |some c=>rf (xs.toList.map a++b) (c.ps.map mv)
   |none=>none
  |_=>none
 |_=>none
def Ef (ic:fo) {A:Type} (id:Nat) (k:aW) (j:List aW) (c:Operand->ao) (l:List (Nat×aH)) (p:Oper) (r:bm->Option A):Option A:=
 match p.dst with
 |none=>none
 |some g=>
  bif fC ic.n ic.pin g then
  match p.op with
  |.call {callee:=.value m,args:=xs,argTypes:=_}=>match c m with
   |.df o d=>
    match qO ic.CG o (xs.toList.map c++d) with
    |none=>none
    |some a=>
     bif Nat.beq a.f o then
     match au l id with
     |none=>none
     |some h=>match dF h.1 (k::j) with
      |none=>none
      |some i=>match gg h.1 h.2 (k::j) i with
       |none=>none
       |some q=>
        match ea ((id,⟨i,q⟩)::del [id] l) (pO (kK id (xs.toList.map c++d) (a.ps.map mv)) a.ps) a.ps (kK id (xs.toList.map c++d) (a.ps.map mv)) with
        |none=>none
        |some e=>(a.vo e).bind λb=>bif lF g ⟨[],(id,⟨i,q⟩)::del [id] l⟩ (kK id (xs.toList.map c++d) (a.ps.map mv)) (eO a.ps e b) (hl a.rs (gI a.ps b))&&(c9 id (eC (kK id (xs.toList.map c++d) (a.ps.map mv)) (eO a.ps e b))&&c9 id (kG (kK id (xs.toList.map c++d) (a.ps.map mv)) (eO a.ps e b))) then
         match au (im (kK id (xs.toList.map c++d) (a.ps.map mv)) (eO a.ps e b)++hm g (g7 (hl a.rs (gI a.ps b))) 0 (hl a.rs (gI a.ps b))) id with
         |none=>none
         |some s=>match gv i s.2 with
          |none=>none
          |some t=>(kJ h.1 h.2 (k::j) i t).bind λm=>
           r ⟨some (g,s4 g (hl a.rs (gI a.ps b))),eC (kK id (xs.toList.map c++d) (a.ps.map mv)) (eO a.ps e b),(id,k::j)::uQ (kG (kK id (xs.toList.map c++d) (a.ps.map mv)) (eO a.ps e b)),(id,⟨h.1,m⟩)::(im (kK id (xs.toList.map c++d) (a.ps.map mv)) (eO a.ps e b)++hm g (g7 (hl a.rs (gI a.ps b))) 0 (hl a.rs (gI a.ps b)))⟩
         else none
     else none
   |_=>none
  |_=>none
  else none
def Fu (ic:fo) (b:Operand->ao) (c:Oper):Option c2:=match c.dst,c.op with
 |some a,.binOp .eql d e g _=>match eX ic.tt d,b e,b g with
  |some _,.val (.a5 _ h) f,.bQ (.slice none 0 0)=>bif fC ic.n ic.pin a then some (a,List.length (α:=h.den) f) else none
  |_,_,_=>none
 |_,_=>none
def JP (tt:List (TypeId×ai)) (a:TypeId):Bool:=match au tt a with|some (.ptr _ _)=>true|_=>false
def Ft (b:List (Nat×aH)):ao->Option Bool
 |.val (.ptr _ a) d=>some (Option.isNone (α:=a.den) d)
 |.ref id c=>match au b id with
  |some a=>match dF a.1 c with
   |some (.optr _)=>some false
   |_=>none
  |none=>none
 |_=>none
def F5 (ic:fo) (c:Operand->ao) (f:List (Nat×aH)) (d:Oper):Option (Nat×Bool):=match d.dst,d.op with
 |some a,.binOp g e h i _=>match JP ic.tt e,Ft f (c h),c i with
  |true,some b,.bQ (.pointer none)=>bif fC ic.n ic.pin a then(match g with
   |.eql=>some (a,b)
   |.neq=>some (a,!b)
   |_=>none) else none
  |_,_,_=>none
 |_,_=>none
def Gz (ic:fo) (f:Operand->ao) (d:Oper):Option (Nat×rH×Int):=match d.dst,d.op with
 |some c,.indexAddr e (.global h) g=>match ic.kh.find? (λa=>Nat.beq a.b h&&Nat.beq a.T e),f g with
  |some a,.val (.int _) i=>bif fC ic.n ic.pin c then some (c,a,i) else none
  |_,_=>none
 |_,_=>none
def i1 (ic:fo) {A:Type} (a:aO) (d:Oper) (b:aO->Option A):Option A:=
 match Gz ic (aR a.g) d with
 |some (c,i,f)=>(ax i.xs f).bind λn=>b ⟨(c,.val (.ptr .bB (.int i.k)) (some n))::a.g,a.h⟩
 |none=>match F5 ic (aR a.g) a.h d with
 |some (c,j)=>b ⟨(c,.val .bool j)::a.g,a.h⟩
 |none=>match Fu ic (aR a.g) d with
 |some (c,f)=>mC f (b ⟨(c,.val .bool true)::a.g,a.h⟩) (b ⟨(c,.val .bool false)::a.g,a.h⟩)
 |none=>match Gx ic (aR a.g) d with
  |some (id,m::l)=>Ef ic id m l (aR a.g) a.h d λe=>b (e.app a)
  |_=>iw ic (aR a.g) a.h d λe=>b (e.app a)
def jl (ic:fo) {A:Type} (c:Array Oper):ac7->aO->(aO->Option A)->Option A
 |[],a,b=>b a
 |i::e,a,b=>match c[i]? with
  |none=>none
  |some f=>match f.guard with
   |none=>i1 ic a f λk=>jl ic c e k b
   |some (
    l,rl)=>match(c[l]?).bind (·.dst),f.dst with
    |some j,some d=>match gt a.g j with
     |.val .bool m=>bif fC ic.n ic.pin d then
      (match m==rl with
      |true=>i1 ic ⟨(j,.val .bool rl)::a.g,a.h⟩ f λk=>jl ic c e k b
      |false=>jl ic c e ⟨(d,.bQ undef)::(j,.val .bool (!rl))::a.g,a.h⟩ b) else none
     |.bQ (.tuple _)=>bif fC ic.n ic.pin d then jl ic c e ⟨(d,.bQ undef)::a.g,a.h⟩ b else none
     |_=>none
    |_,_=>none
section
variable {E:dR} {C:dn} {ic:fo} {A:Type}
def fo.ac (E:dR) (C:dn) (ic:fo):Prop:=ic.tt=E.tt/\ic.n=C.n/\ic.pin=C.pin/\((∀b∈ic.CG,aB E b.2)/\rF C ic.X3/\(∀a∈ic.aF,G4 E.P a)/\jy E C.I0 C.w0/\ic.kh=E.glob)/\nL C ic.kg
def fC.ok (c:ic.ac E C) {d:Nat} (b:fC ic.n ic.pin d=true):C.ok d:=by obtain⟨_,a,e,_,_⟩:=c;rw[a,e] at b;simp only[fC,bc] at b;exact⟨eM b.1,λf=>by have a:=b.2;rw[ej.2 f] at a;cases a⟩
def e3.same {d:acZ} (k:∀b,gt X.g b=gt i.g b) (c:X.h=i.h) (j:e3 C i d v):e3 C X d v:=by obtain⟨e,l,f,a⟩:=j;exact⟨e,l,f,{a with tree:=by rw[c];exact a.tree,dis:=by rw[c];exact a.dis,tmp:=λb=>by rw[c,k];exact a.tmp b}⟩
def gO.same {f:Array Oper} {e:ac7} {a b:aO} {c:aO->Prop} (l:∀d,gt b.g d=gt a.g d) (m:b.h=a.h) (j:gO E C f e b c):gO E C f e a c:=
 λi n k=>j i n (k.same l m)
def bm.HH {a:List (Nat×List aW)}:(bm.mk (some (b,d)) f a e).app i=⟨(b,d)::kill f a i.g,e++del f i.h⟩:=by show aO.mk ((b,d)::lK f a i.g) (e++pi f i.h)=_;rw[om,sd]
def IS (O:ic.ac E C) {t:Oper} {st:aO} {v:bm->Option A} {w:A} (a:al ic (aR st.g) st.h t v=some w):dk E C t st (λx=>∃b,v b=some w/\x=b.app st):=by
 obtain⟨k,ek,el,d0,_⟩:=id O;unfold al at a;split at a
 ·rename_i e;split at a
  ·rename_i j d L c;rw[k] at a;exact Yj c e (Yi a (λb s=>⟨b,s,rfl⟩))
  ·rename_i j d Q L c;rw[k] at a;exact KB (.inl c) e a
  ·rename_i j d Q L c;rw[k] at a;exact KB (.inr c) e a
  ·rename_i j d x L c;rw[k] at a;exact QJ c e a
  ·rename_i p y c;split at a
   case h_2=>cases a
   rename_i d Q j a4 al ad;rw[k] at a;obtain rfl:p=#[d,Q]:=(by cases p;simp_all);obtain rfl:y=#[j,a4]:=(by cases y;simp_all);exact SR c e a
  cases a
 rename_i F e;cases Y:fC ic.n ic.pin F with
 |false=>rw[Y] at a;cases a
 |true=>
 rw[Y] at a;have i:=fC.ok O Y;simp only[cond_true] at a;split at a
 ·rename_i d9 d u c;split at a
  case h_2=>cases a
  rename_i q I;have V:∀D,(q=true->D=aR st.g d)->(q=false->D=aR st.g u)->v ⟨some (F,D),[],[],[]⟩=some w->dk E C t st (λx=>∃b,v b=some w/\x=b.app st):=by
   clear a;intro D ce ci z;refine dk.eval (an:=ic.an) e i ?_;rw[c];simp only[e6,Ch,I];refine⟨q,rfl,_,z,?_⟩;cases q
   ·rw[ci rfl];rfl
   rw[ce rfl];rfl
  split at a
  ·rename_i d8 fs fz L d1 Z;split at a
   case h_2=>cases a
   rename_i d7 d2;cases iR d2;refine V _ ?_ ?_ a
   ·intro b;rw[d1,b];rfl
   intro b;rw[Z,b];rfl
  cases q
  ·exact V _ (λb=>by cases b) (λ_=>rfl) a
  exact V _ (λ_=>rfl) (λb=>by cases b) a
 ·rename_i ft p _ c;split at a
  case h_2=>cases a
  rename_i N av d4;split at a
  ·cases a
  rename_i M am;cases o:Nat.beq M.f N with
  |false=>rw[o] at a;cases a
  |true=>
  rw[o] at a;obtain rfl:=ep o;simp only[cond_true,lJ] at a;obtain⟨l,co,a⟩:=bZ.1 a;obtain⟨q,ds,a⟩:=bZ.1 a;cases I:lF F ⟨[],st.h⟩ (p.toList.map (aR st.g)++av) (eO M.ps l q) (hl M.rs (gI M.ps q)) with
  |false=>rw[I] at a;cases a
  |true=>
  rw[I] at a;obtain⟨em,dl⟩:=E5 am;obtain⟨cs,cv⟩:=d0.1 _ dl;refine dk.call c d4 e i cs (cv l q ds) (by rw[yl];exact E6 am) O.2.2.2.2.1 O.2.2.2.1.2.2.2.1 ?_ I ⟨_,a,?_⟩
  ·rw[GC];exact og co
  rw[bm.HH];rfl
 ·rename_i p y c;split at a
  case h_2=>cases a
  rename_i d u j R al ad;cases o:Nat.beq j R with
  |false=>rw[o] at a;cases a
  |true=>
  rw[o] at a;obtain rfl:=ep o;have S:p=#[d,u]:=(by cases p;simp_all);have T:y=#[j,j]:=(by cases y;simp_all);subst S;subst T;rw[k] at a;exact Pb c e i a
 ·rename_i p y c;split at a
  case h_2=>cases a
  rename_i d u j R al ad;have S:p=#[d,u]:=(by cases p;simp_all);have T:y=#[j,R]:=(by cases y;simp_all);subst S;subst T;rw[k] at a;exact dk.copy c e i a
 ·rename_i d c;have U:ES (aR st.g d)=true->v ⟨some (F,aR st.g d),[],[],[]⟩=some w->dk E C t st (λx=>∃b,v b=some w/\x=b.app st):=λZ z=>by
   refine dk.eval (an:=ic.an) e i ?_;rw[c];simp only[e6,Z,cond_true];exact⟨_,z,rfl⟩
  have as:(n4 ic.an st.h F (aR st.g d)).bind v=some w->dk E C t st (λx=>∃b,v b=some w/\x=b.app st):=λz=>(by obtain⟨b,s,z⟩:=bZ.1 z;exact dk.Pj c e i (Pk s ⟨b,z,rfl⟩));split at a
  ·rename_i d8 u m;exact U (by rw[m];rfl) (by rw[m];exact a)
  ·rename_i N av m;exact U (by rw[m];rfl) (by rw[m];exact a)
  ·rename_i id fn m;rintro l B ⟨a3,d6,bs,H⟩ next bl W
   have G:=H.aR d;have X:(execOp l.eval t).run E.P B=.ok (.value (l.eval d)) B:=(by simp[execOp,c]);unfold Oper.wp;rw[X];show next (l.put t.dst (l.eval d)) B
   rw[e];refine W _ _ _ ⟨_,a,rfl⟩ rfl ⟨_,_,_,H.put i ?_⟩;rw[m] at G;exact G
  ·rename_i L m;split at a
   ·exact U (by rw[m];rfl) (by rw[m];exact a)
   split at a
   ·rename_i ap;simp only[bc] at ap;obtain⟨u,d3,a⟩:=bZ.1 a;rintro l B ⟨a3,d6,bs,H⟩ next bl W
    have G:=H.aR d;have X:(execOp l.eval t).run E.P B=.ok (.value (l.eval d)) B:=(by simp[execOp,c]);unfold Oper.wp;rw[X];show next (l.put t.dst (l.eval d)) B
    rw[e];refine W _ _ _ ⟨_,a,rfl⟩ rfl ⟨_,_,_,H.put i ?_⟩;rw[m] at G;generalize l.eval d=d7 at G;cases G;rw[<-m2.ok ap.2];exact .val (oa d3)
   exact as (by rw[m];exact a)
  exact as a
 ·rename_i j d5 c;rw[k] at a;exact Pu c e i a (λb s=>⟨b,s,rfl⟩)
 ·rename_i j d Q c;rw[k] at a;exact S0 c e i a
 ·rename_i j d c;rw[k] at a;exact Px c e i a (λb s=>⟨b,s,rfl⟩)
 ·rename_i j eq d5 c;rw[k] at a;exact PB c e i a (λb s=>⟨b,s,rfl⟩)
 split at a
 ·rename_i D r;refine dk.eval (an:=ic.an) e i ?_;rw[<-k];exact En (by rw[r];exact⟨_,a,rfl⟩)
 ·rename_i a0 u N r;refine dk.eval (an:=ic.an) e i ?_;rw[<-k];obtain⟨K,J,a⟩:=bZ.1 a;exact En (by rw[r];exact⟨K,J,_,a,rfl⟩)
 ·rename_i a0 u fp b r;cases o:Nat.beq b F with
  |false=>rw[o] at a;cases a
  |true=>
  rw[o] at a;obtain rfl:=ep o;obtain⟨K,J,a⟩:=bZ.1 a;refine dk.eval (an:=ic.an) e i ?_;rw[<-k];exact En (by rw[r];exact⟨K,J,_,a,rfl⟩)
 refine dk.eval (an:=ic.an) e i ?_;rw[k] at a;split at a
 ·rename_i D ex r;rw[r];exact⟨_,a,rfl⟩
 ·rename_i a0 fT N r;rw[r];obtain⟨K,J,a⟩:=bZ.1 a;exact⟨K,Wo J,_,a,rfl⟩
 cases a
def dk.mono {P:aO->Prop} (e:dk E C h i P) (j:∀a,P a->u a):dk E C h i u:=
 λc l f next b g=>e c l f next b (λa d m k=>g a d m (j a k))
def Xw {keep:List (Nat×List aW)} {a:ao} (c:jR keep a=true):∃id,a.ids=[id]/\∃b∈keep,b.1=id:=by
 have e:∀(id:Nat) (g:Nat×List aW->Bool),(keep.any λb=>Nat.beq b.1 id&&g b)=true->∃b∈keep,b.1=id:=(by intro id g j;obtain⟨b,f,h⟩:=nM.1 j;simp only[bc] at h;exact⟨b,f,ep h.1⟩);cases a with
 |ref id d=>
  cases d with
  |nil=>
   obtain⟨b,f,i⟩:=nM.1 (show(keep.any λb=>Nat.beq b.1 id)=true from c);exact⟨id,rfl,b,f,ep i⟩
  |cons m d=>exact⟨id,rfl,e id _ c⟩
 |addr id d=>exact⟨id,rfl,e id _ c⟩
 |view id d l k=>exact⟨id,rfl,e id _ c⟩
 |_=>cases c
def CQ {F S:ac7} {a:ao}:a.dK (F++S)=(a.dK F||a.dK S):=by
 simp only[ao.dK];rw[lZ];simp only[nM,fX];constructor
 ·rintro⟨c,b,d⟩;rcases dX.1 (ej.1 d) with e|e
  ·exact .inl ⟨c,b,ej.2 e⟩
  exact .inr ⟨c,b,ej.2 e⟩
 rintro(⟨c,b,d⟩|⟨c,b,d⟩)
 ·exact⟨c,b,ej.2 (mS _ (ej.1 d))⟩
 exact⟨c,b,ej.2 (kU _ (ej.1 d))⟩
def Ii:(ao.df b L).dK f=L.any λa=>a.dK f:=by
 show(ao.mu L).any _=_
 induction L with
 |nil=>rfl
 |cons a L c=>simp only[ao.mu,List.any_append,List.any_cons,c,ao.dK]
def MK {e:ac7} (h:d.dK e=false):hM (e++f) g d=hM f g d:=by
 cases d with
 |df p q=>
  rw[Ii,tw] at h;rw[lZ];simp only[hM,eJ];constructor<;>intro b j k<;>have:=b j k<;>rw[CQ,Bool.eq_false_iff.2 (h j k)] at*<;>simpa using this
 |app id r t s i=>
  have n:=GO h;have l:∀a∈i,c9 a (e++f)=c9 a f:=λa c=>(by have o:a∉e:=n a (e1 _ c);rw[lZ,ej,ej,dX];exact⟨λb=>b.resolve_left o,.inr⟩);have m:(i.all λa=>!(c9 a (e++f)))=i.all λa=>!(c9 a f):=(by rw[lZ];simp only[eJ];exact⟨λb a c=>by rw[<-l a c];exact b a c,λb a c=>by rw[l a c];exact b a c⟩);simp only[hM,m]
 |_=>rfl
def R8 {F S:ac7} {keep:List (Nat×List aW)} {a:ao}:dr (F++S) keep a=.dead\/(a.dK F=false/\dr (F++S) keep a=dr S keep a)\/(hM (F++S) keep a=true/\dr (F++S) keep a=a):=by
 have d:=CQ (F:=F) (S:=S) (a:=a);have c:a.dK F=false->hM (F++S) keep a=hM S keep a:=MK;unfold dr;rw[d];cases b:a.dK F with
 |false=>right;left;rw[c b];simp
 |true=>
  cases hM (F++S) keep a<;>simp
def lG.ok (b:lG e f=true):∀id∈f,∃a,au e id=some a/\EG a.1=true:=by
 intro id c;have:=eJ.1 b id c;split at this
 ·rename_i a d;exact⟨a,d,this⟩
 cases this
def IU (ap:ic.ac E C) {Q:Oper} {Z:bm->Option A} {a0:A} (e:iw ic (aR i.g) i.h Q Z=some a0):dk E C Q i (λa3=>∃b,Z b=some a0/\a3=b.app i):=by
 unfold iw at e;split at e
 ·exact IS ap e
 generalize kC ic.na (ss Q) (aR i.g) (pR Q.op)=c at e;cases W:lG i.h c with
 |false=>rw[W] at e;cases e
 |true=>
 rw[W] at e;simp only[cond_true] at e;rw[<-Rx c i] at e;have n:=IS (st:=qG c i) ap e;intro j d1 T next a4 ds
 obtain⟨d4,d7,d5,T⟩:=T;refine n j d1 (T.freeze (lG.ok W)) next a4 (λd8 bl d2 d0 co ce=>?_)
 obtain⟨b,O,rfl⟩:=d0;cases G:b.keep.all (λl=>!c9 l.1 c) with
 |false=>rw[G] at O;cases O
 |true=>
 rw[G] at O;have G:∀l∈b.keep,l.1∉c:=λl q y=>(by have:=eJ.1 G l q;rw[ej.2 y] at this;cases this);refine ds _ bl d2 ⟨_,O,rfl⟩ co (ce.J5 ?_ ?_)
 ·intro D;have u:∀j:ao,dr (c++b.S) b.keep j=.dead\/dr (c++b.S) b.keep j=dr b.S b.keep (fg i.h c j):=by
   intro j;rcases R8 (F:=c) (S:=b.S) (keep:=b.keep) (a:=j) with e|⟨n,o⟩|⟨n,o⟩
   ·exact .inl e
   ·right;rw[o];rcases k5 i.h c j with⟨id,r,rfl,Y,_⟩|⟨_,k⟩|⟨k,_⟩
    ·simp[ao.dK,ao.ids,ej.2 Y] at n
    ·rw[n] at k;cases k
    rw[k]
   have X:∀(id:Nat),(∃m∈b.keep,m.1=id)->c9 id c=false:=λid ⟨m,t,b⟩=>by
    cases y:c9 id c
    ·rfl
    exact absurd (b▸ej.1 y) (G m t)
   have M:hM (c++b.S) b.keep j=hM b.S b.keep j->∀(id:Nat),j.ids=[id]->(∃m∈b.keep,m.1=id)->dr (c++b.S) b.keep j=.dead\/dr (c++b.S) b.keep j=dr b.S b.keep (fg i.h c j):=by
    intro ci id dl t;have z:j.dK c=false:=(by simp[ao.dK,dl,X id t]);right;rcases k5 i.h c j with⟨l,r,rfl,Y,_⟩|⟨_,k⟩|⟨k,_⟩
    ·simp[ao.dK,ao.ids,ej.2 Y] at z
    ·rw[z] at k;cases k
    rw[k,o];unfold dr;rw[show hM b.S b.keep j=true by rw[<-ci];exact n];simp
   have N:∀(id:Nat) (ad:Nat×List aW->Bool),(b.keep.any λm=>Nat.beq m.1 id&&ad m)=true->∃m∈b.keep,m.1=id:=(by intro id ad cs;obtain⟨m,t,o⟩:=nM.1 cs;simp only[bc] at o;exact⟨m,t,ep o.1⟩);cases j with
   |ref id f=>
    cases f with
    |nil=>
     obtain⟨m,t,s⟩:=nM.1 (show(b.keep.any λm=>Nat.beq m.1 id)=true from n);exact M rfl id rfl ⟨m,t,ep s⟩
    |cons a3 f=>exact M rfl id rfl (N id _ n)
   |addr id f=>exact M rfl id rfl (N id _ n)
   |view id f H q=>exact M rfl id rfl (N id _ n)
   |df w p=>
    have an:=eJ.1 n;have z:(ao.df w p).dK c=false:=(by rw[Ii,tw];intro K U V;have s:=an K U;rw[CQ,V] at s;obtain⟨id,al,t⟩:=Xw (keep:=b.keep) (a:=K) (by simpa using s);rw[ao.dK,al] at V;simp[X id t] at V);right;rcases k5 i.h c (.df w p) with⟨l,r,aw,_⟩|⟨_,k⟩|⟨k,_⟩
    ·cases aw
    ·rw[z] at k;cases k
    rw[k,o];unfold dr;have bs:hM b.S b.keep (.df w p)=true:=eJ.2 λK U=>(by have s:=an K U;rw[CQ,Bool.not_or,fX,bc] at s;rw[fX];exact s.imp (λe=>e.2) (λe=>e));rw[bs];simp
   |app id f x B v=>
    have R:((v.all λl=>!(c9 l (c++b.S)))&&b.keep.any λm=>Nat.beq m.1 id&&jf m.2 f)=true:=n;rw[bc] at R;have cv:=X id (N id _ R.2);have z:(ao.app id f x B v).dK c=false:=by
     unfold ao.dK;rw[tw];intro l q y;rcases dg.1 (show l∈id::v from q) with rfl|q
     ·rw[cv] at y;cases y
     have:=eJ.1 R.1 l q;rw[ej.2 (mS _ (ej.1 y))] at this;cases this
    right;rcases k5 i.h c (.app id f x B v) with⟨l,r,aw,_⟩|⟨_,k⟩|⟨k,_⟩
    ·cases aw
    ·rw[z] at k;cases k
    rw[k,o];unfold dr;rw[<-MK z,n];simp
   |_=>cases n
  have av:∀j:ao,vy (ef (c++b.S) b.keep j) (ef b.S b.keep (g4 i.h c j)):=by
   intro j;cases j with
   |dv p=>
    refine .inr (.inr ⟨_,_,rfl,rfl,ab,λl m ek n o=>?_⟩);rw[eT] at n o;rw[eT] at o;obtain⟨d3,s,rfl⟩:=dY.1 n;rw[s] at o;simp only[fd,bF] at o;subst o;exact u d3
   |ref id f=>
    have k:=u (.ref id f);have al:ef b.S b.keep (g4 i.h c (.ref id f))=dr b.S b.keep (fg i.h c (.ref id f)):=by show ef b.S b.keep (fg i.h c (.ref id f))=_;rcases k5 i.h c (.ref id f) with⟨l,r,_,_,_,e⟩|⟨e,_⟩|⟨e,_⟩<;>rw[e]<;>first|rfl|exact su _ _ _
    rw[al];exact k.imp (λe=>e) .inl
   |dead=>exact(u .dead).imp (λe=>e) .inl
   |val x m=>exact .inr (.inl (by
    simp[dr,fg,g4,ef,ao.dK,ao.ids]))
   |bQ d9=>exact .inr (.inl (by
    simp[dr,fg,g4,ef,ao.dK,ao.ids]))
   |addr id f=>
    have al:ef b.S b.keep (g4 i.h c (.addr id f))=dr b.S b.keep (fg i.h c (.addr id f)):=by show ef b.S b.keep (fg i.h c (.addr id f))=_;rcases k5 i.h c (.addr id f) with⟨l,r,_,_,_,e⟩|⟨e,_⟩|⟨e,_⟩<;>rw[e]<;>first|rfl|exact su _ _ _
    rw[al];exact(u _).imp (λe=>e) .inl
   |view id f H q=>
    have al:ef b.S b.keep (g4 i.h c (.view id f H q))=dr b.S b.keep (fg i.h c (.view id f H q)):=by show ef b.S b.keep (fg i.h c (.view id f H q))=_;rcases k5 i.h c (.view id f H q) with⟨l,r,_,_,_,e⟩|⟨e,_⟩|⟨e,_⟩<;>rw[e]<;>first|rfl|exact su _ _ _
    rw[al];exact(u _).imp (λe=>e) .inl
   |iV id f P=>
    have al:ef b.S b.keep (g4 i.h c (.iV id f P))=dr b.S b.keep (fg i.h c (.iV id f P)):=by show ef b.S b.keep (fg i.h c (.iV id f P))=_;rcases k5 i.h c (.iV id f P) with⟨l,r,_,_,_,e⟩|⟨e,_⟩|⟨e,_⟩<;>rw[e]<;>first|rfl|exact su _ _ _
    rw[al];exact(u _).imp (λe=>e) .inl
   |app id f x B v=>
    have al:ef b.S b.keep (g4 i.h c (.app id f x B v))=dr b.S b.keep (fg i.h c (.app id f x B v)):=by show ef b.S b.keep (fg i.h c (.app id f x B v))=_;rcases k5 i.h c (.app id f x B v) with⟨l,r,_,_,_,e⟩|⟨e,_⟩|⟨e,_⟩<;>rw[e]<;>first|rfl|exact su _ _ _
    rw[al];exact(u _).imp (λe=>e) .inl
   |agg p=>
    have al:ef b.S b.keep (g4 i.h c (.agg p))=dr b.S b.keep (fg i.h c (.agg p)):=by show ef b.S b.keep (fg i.h c (.agg p))=_;rcases k5 i.h c (.agg p) with⟨l,r,_,_,_,e⟩|⟨e,_⟩|⟨e,_⟩<;>rw[e]<;>first|rfl|exact su _ _ _
    rw[al];exact(u _).imp (λe=>e) .inl
   |df w p=>
    have al:ef b.S b.keep (g4 i.h c (.df w p))=dr b.S b.keep (fg i.h c (.df w p)):=by show ef b.S b.keep (fg i.h c (.df w p))=_;rcases k5 i.h c (.df w p) with⟨l,r,_,_,_,e⟩|⟨e,_⟩|⟨e,_⟩<;>rw[e]<;>first|rfl|exact su _ _ _
    rw[al];exact(u _).imp (λe=>e) .inl
  show vy (gt (bm.app ⟨b.d,c++b.S,b.keep,b.put⟩ i).g D) (gt (b.app (qG c i)).g D);obtain⟨L,J,I,d6⟩:=b;cases L with
  |none=>
   show vy (gt (lK (c++J) I i.g) D) (gt (lK J I (qG c i).g) D);rw[om,om,nf,nf,Bw];exact av _
  |some k=>
   obtain⟨L,am⟩:=k;show vy (gt ((L,am)::lK (c++J) I i.g) D) (gt ((L,am)::lK J I (qG c i).g) D);rw[hj,hj];split
   ·exact .inr (.inl rfl)
   rw[om,om,nf,nf,Bw];exact av _
 intro id;show au (b.put++pi (c++b.S) i.h) id=au (b.put++pi b.S (del c i.h)) id;rw[sd,sd,iB,iB,jT,jT,jT];by_cases n:id∈c<;>by_cases o:id∈b.S<;>simp[n,o]
def Qv (l:ic.ac E C) {v:Oper} {id:Nat} (m:Gx ic (aR i.g) v=some (id,T::j)) {w:bm->Option A} {F:A} (a:Ef ic id T j (aR i.g) i.h v w=some F):dk E C v i (λT=>∃x,w x=some F/\T=x.app i):=by
 have U:=λc=>fC.ok l (d:=c);have P:=l.2.2.2.2.1;have Q:=l.2.2.2.1.2.2.2.1;obtain⟨a3,_,_,Y,_⟩:=l;unfold Ef at a;split at a
 ·cases a
 rename_i c L;cases u:fC ic.n ic.pin c with
 |false=>rw[u] at a;cases a
 |true=>
 rw[u] at a;have M:=U c u;simp only[cond_true] at a;split at a
 case h_2=>cases a
 rename_i a0 G ci y;split at a
 case h_2=>cases a
 rename_i I D B;split at a
 ·cases a
 rename_i b r;cases s:Nat.beq b.f I with
 |false=>rw[s] at a;cases a
 |true=>
 rw[s] at a;obtain rfl:=ep s;simp only[cond_true] at a;split at a
 ·cases a
 rename_i bs W;split at a
 ·cases a
 rename_i av a4;split at a
 ·cases a
 rename_i an Z;split at a
 ·cases a
 rename_i k J;obtain⟨e,S,a⟩:=bZ.1 a;have V:rf (G.toList.map (aR i.g)++D) (b.ps.map mv)=some (id,T::j):=(by unfold Gx at m;rw[y] at m;simp only[B,r] at m;exact m);generalize K:kK id (G.toList.map (aR i.g)++D) (b.ps.map mv)=o at*;cases t:lF c ⟨[],(id,⟨av,an⟩)::del [id] i.h⟩ o (eO b.ps k e) (hl b.rs (gI b.ps e)) with
 |false=>rw[t] at a;cases a
 |true=>
 rw[t] at a;cases p:c9 id (eC o (eO b.ps k e)) with
 |false=>rw[p] at a;cases a
 |true=>
 rw[p] at a;cases q:c9 id (kG o (eO b.ps k e)) with
 |false=>rw[q] at a;cases a
 |true=>
 rw[q] at a;simp only[Bool.and_self,cond_true] at a;split at a
 ·cases a
 rename_i ce X;split at a
 ·cases a
 rename_i H ad;obtain⟨ap,am,a⟩:=bZ.1 a;obtain⟨bl,R⟩:=E5 r;obtain⟨N,O⟩:=Y.1 _ R;refine dk.sub y B L M N (O k e S) (by rw[yl];exact E6 r) P Q W (g5 Z) V K.symm ?_ t (ej.1 p) (ej.1 q) (y':=H) (z:=ap) ?_ (lg am) ⟨_,a,?_⟩
 ·rw[GC];exact og J
 ·rw[X];exact congrArg some (iR ad)
 rw[bm.HH]
def XK (b:World) (e:Nat) (a:Option Addr) (g d:Nat) (f:s.underlying c=some (.slice q)):(Op.equalIn (e+1) c (.slice a g d) (.slice none 0 0)).run s b=.ok a.isNone b:=by cases a<;>simp[Op.equalIn,run_underlying f]
def XI (b:World) (a:Option Addr) (e d:Nat) (f:s.underlying c=some (.slice q)):(binOp .eql c (.slice a e d) (.slice none 0 0)).run s b=.ok (.bool a.isNone) b:=by simp only[binOp];simp[Op.equal,Op.maxDepth,XK b 9999 a e d f]
def Tk (u:ic.ac E C) {z:Oper} (a:Fu ic (aR i.g) z=some (b,l)):dk E C z i (λX=>∃c:Bool,X=⟨(b,.val .bool c)::i.g,i.h⟩/\(c=true->l=0)):=by
 unfold Fu at a;split at a
 case h_2=>cases a
 rename_i G D j k a4 L R;split at a
 case h_2=>cases a
 rename_i a3 av B A t I J;cases o:fC ic.n ic.pin G with
 |false=>rw[o] at a;cases a
 |true=>
 rw[o] at a;simp only[cond_true,bF,fe] at a;obtain⟨rfl,rfl⟩:=a;rw[u.1] at t;obtain⟨_,ad,_,T,_⟩:=eX.ok t;rintro e f ⟨Z,a0,an,m⟩ next am O
 have p:=m.aR j;have q:=m.aR k;rw[I] at p;rw[J] at q;obtain⟨d,w⟩:∃d,d=e.eval j:=⟨_,rfl⟩;obtain⟨e0,x⟩:∃d,d=e.eval k:=⟨_,rfl⟩;rw[<-w] at p;rw[<-x] at q;cases p with|val W=>cases q with|bQ _=>
 obtain⟨_,c,s,rfl,ap,K,_⟩:=W;have U:e.eval j=.slice c (List.length (α:=B.den) A) s:=w.symm;have V:e.eval k=.slice none 0 0:=x.symm;have N:∀f,(eqGuard .eql D j k (.slice c (List.length (α:=B.den) A) s) (.slice none 0 0)).run E.P f=.ok () f:=λf=>(by unfold eqGuard;simp);refine Yields.wp (Q:=λr y=>r=.val .bool c.isNone/\y=[]) m (.pure (v:=.bool _) (by simp only[execOp,R,U,V,Sem.run_bind,N,Result.andThen_ok,XI _ _ _ _ T];rfl) (.bool _) ⟨rfl,rfl⟩) L (fC.ok u o) ?_;rintro r y F Y ⟨rfl,rfl⟩ M S;refine O _ F Y ⟨c.isNone,rfl,λH=>?_⟩ M S;cases c with
 |none=>have:=K rfl;omega
 |some _=>cases H
def Yy {e:IntKind} (g:E.P.underlying q=some (.array W c)) (f:dC E.P (.int e) c) {a:Act} (j:h.op=.indexAddr q (.global l) m) {o:IntKind} (i:a.eval m=.int o b) (r:b<W):(execOp a.eval h).run E.P v=.ok (.value (.pointer (some ⟨l,0+b*1,none⟩))) v:=by have d:=f.sizeOf v;have n:a.eval (.global l)=.pointer (some ⟨l,0,none⟩):=rfl;have:(0:Int)<=(b:Int)/\(b:Int)<(W:Int):=⟨U,U⟩;have k:(ai.int e).size=1:=rfl;rw[k] at d;simp[execOp,j,n,i,Instr.indexAt,Instr.sureAddr,asIntOf,run_underlying g,this,d,Addr.add_lit];intro p;omega
def Yu (d:ic.ac E C) {G:Oper} {u:rH} {D e:Int} (a:Gz ic (aR i.g) G=some (l,u,D)) (ad:ax u.xs D=some e):dk E C G i (λap=>ap=⟨(l,.val (.ptr .bB (.int u.k)) (some e))::i.g,i.h⟩):=by
 unfold Gz at a;split at a
 case h_2=>cases a
 rename_i I a4 cv r T W;split at a
 case h_2=>cases a
 rename_i c B s A O;cases q:fC ic.n ic.pin I with
 |false=>rw[q] at a;cases a
 |true=>
 rw[q] at a;simp only[cond_true,bF,fe] at a;obtain⟨rfl,rfl,rfl⟩:=a;have m:=List.find?_some A;have p:=C8 A;rw[bc] at m;obtain rfl:=ep m.1;obtain rfl:=ep m.2;rw[d.2.2.2.1.2.2.2.2] at p;obtain⟨a3,S,R⟩:=E.gok c p;rintro v d2 ⟨a0,d0,co,j⟩ next bl V
 have o:=j.aR r;rw[O] at o;generalize Y:v.eval r=d1 at o;cases o with|val an=>
 obtain⟨_,rfl⟩:=an;obtain⟨al,f,N⟩:=Jv ad;obtain⟨_,bs,ci,z,aw,ds,t⟩:=j.glob d.2.2.2.2.1 d.2.2.2.1.2.2.2.1 c p;simp only[fJ,Value.slice.injEq,and_true] at z;obtain⟨rfl,_⟩:=z;rcases t with t|⟨ce,dl,y,P,am⟩
 ·rw[t] at f;simp at f
 simp only[bF,Addr.mk.injEq,and_true] at y;obtain⟨rfl,rfl⟩:=y;obtain⟨M,J,K,L⟩:=am _ _ N;have Z:v.eval r=.int B (s.toNat:Nat):=(by rw[Y];show Value.int B s=_;rw[<-al]);refine Yields.wp (Q:=λw F=>w=.val (.ptr .bB (.int c.k)) (some e)/\F=[]) j (.pure (Yy S R W Z f) (.val (τ:=.ptr .bB (.int c.k)) (x:=some e) (cs:=[.pointer (some ⟨c.b,0+s.toNat*1,none⟩)]) ⟨rfl,c.b,_,M,rfl,P,J,K,L⟩) ⟨rfl,rfl⟩) T (fC.ok d q) ?_;rintro w F H av ⟨rfl,rfl⟩ U X;exact V _ H av rfl U X
def MR (b:World) (d:Nat) (a:Option Addr) (e:s.underlying c=some (.pointer q)):(Op.equalIn (d+1) c (.pointer a) (.pointer none)).run s b=.ok a.isNone b:=by cases a<;>simp[Op.equalIn,run_underlying e]
def XJ (b:World) (a:Option Addr) (d:s.underlying c=some (.pointer q)):(binOp .eql c (.pointer a) (.pointer none)).run s b=.ok (.bool a.isNone) b:=by simp only[binOp];simp[Op.equal,Op.maxDepth,MR b 9999 a d]
def XL (b:World) (a:Option Addr) (d:s.underlying c=some (.pointer q)):(binOp .neq c (.pointer a) (.pointer none)).run s b=.ok (.bool (!a.isNone)) b:=by simp only[binOp];simp[Op.equal,Op.maxDepth,MR b 9999 a d]
def Tg {e:Act} (l:br C i e.tmps v B y z) (a:Ft i.h (aR i.g m)=some I):∃k:Option Addr,e.eval m=.pointer k/\k.isNone=I:=by
 have b:=l.aR m;obtain⟨v1,c⟩:∃j,j=e.eval m:=⟨_,rfl⟩;rw[<-c] at b;unfold Ft at a;split at a
 ·rename_i D w j f;rw[f] at b;cases b with|val d=>
  obtain⟨_,d⟩:=d;cases a;cases j with
  |none=>subst d;exact⟨none,c.symm,rfl⟩
  |some G=>obtain⟨q,t,r,rfl,_⟩:=d;exact⟨some ⟨q,t,none⟩,c.symm,rfl⟩
 ·rename_i id E f;split at a
  case h_2=>cases a
  rename_i w o;split at a
  case h_2=>cases a
  rename_i F s;cases a;rw[f] at b;cases b with|ref p n=>
  rw[o] at p;cases p;have:=n.ty;rw[s] at this;cases this;obtain⟨I,u,r,rfl,x,A⟩:=np (l.tree id _ o).1 n;exact⟨some ⟨I,u,none⟩,c.symm,rfl⟩
 cases a
def WB (s:ic.ac E C) {K:Oper} (a:F5 ic (aR i.g) i.h K=some (b,I)):dk E C K i (λW=>W=⟨(b,.val .bool I)::i.g,i.h⟩):=by
 unfold F5 at a;split at a
 case h_2=>cases a
 rename_i O l p X o av y D;split at a
 case h_2=>cases a
 rename_i N j R S;cases k:fC ic.n ic.pin O with
 |false=>rw[k] at a;cases a
 |true=>
 rw[k] at a;simp only[cond_true] at a;have U:∃e,E.P.underlying p=some (.pointer e):=by
  rw[s.1] at j;unfold JP at j;split at j
  ·rename_i am ap V;obtain⟨_,e,_,_,_,_,T,_⟩:=E.ok p _ V;exact⟨e,T⟩
  cases j
 obtain⟨e,F⟩:=U;rintro x m ⟨Y,an,ad,f⟩ next Z A
 have u:=f.aR o;rw[S] at u;obtain⟨e0,H⟩:∃L,L=x.eval o:=⟨_,rfl⟩;rw[<-H] at u;cases u with|bQ _=>
 obtain⟨M,G,B⟩:=Tg f R;have J:x.eval o=.pointer none:=H.symm;have z:∀l m,(eqGuard l p X o (.pointer M) (.pointer none)).run E.P m=.ok () m:=λl m=>(by unfold eqGuard;cases l<;>simp);split at a
 ·cases a;refine Yields.wp (Q:=λc d=>c=.val .bool I/\d=[]) f (.pure (v:=.bool _) (by simp only[execOp,D,G,J,Sem.run_bind,z,Result.andThen_ok,XJ _ _ F,B];rfl) (.bool _) ⟨rfl,rfl⟩) y (fC.ok s k) ?_;rintro c d q w ⟨rfl,rfl⟩ r t;exact A _ q w rfl r t
 ·cases a;refine Yields.wp (Q:=λc d=>c=.val .bool (!N)/\d=[]) f (.pure (v:=.bool _) (by simp only[execOp,D,G,J,Sem.run_bind,z,Result.andThen_ok,XL _ _ F,B];rfl) (.bool _) ⟨rfl,rfl⟩) y (fC.ok s k) ?_;rintro c d q w ⟨rfl,rfl⟩ r t;exact A _ q w rfl r t
 cases a
def JG (g:ic.ac E C) {m:Array Oper} {o:aO->Option A} {r:A} (j:m[b]?=some h) (l:i5 m i h true) (a:i1 ic i h o=some r) (e:∀d,o d=some r->gO E C m f d u):gO E C m (b::f) i u:=
by
 unfold i1 at a;split at a
 ·rename_i q B y k;obtain⟨D,x,a⟩:=bZ.1 a;refine gO.op j l ((Yu g k x).mono (λd c=>?_));subst c;exact e _ a
 split at a
 ·rename_i q p k;refine gO.op j l ((WB g k).mono (λd c=>?_));subst c;exact e _ a
 split at a
 ·rename_i q y k;obtain⟨t,v⟩:=Tj a;refine gO.op j l ((Tk g k).mono (λd c=>?_));obtain⟨p,rfl,w⟩:=c;cases p with
  |false=>exact e _ t
  |true=>exact e _ (v (w rfl))
 split at a
 ·rename_i id d z c;exact gO.op j l ((Qv g c a).mono (λd ⟨s,n,c⟩=>by subst c;exact e _ n))
 exact gO.op j l ((IU g a).mono (λd ⟨s,n,c⟩=>by subst c;exact e _ n))
def xp {l2:ac7} (e:ic.ac E C) {x:Array Oper} {y:aO->Option A} {F:A} {z:aO->Prop} (k:∀q,y q=some F->gO E C x l2 q z):∀{w:ac7} {b:aO},jl ic x w b y=some F->gO E C x (w++l2) b z
 |[],b,a=>k _ a
 |i::w,b,a=>by
  simp only[jl] at a;split at a
  ·cases a
  rename_i I p;split at a
  ·rename_i l;exact JG e p (by unfold i5;rw[l]) a (λq c=>xp e k c)
  rename_i H r l;split at a
  case h_2=>cases a
  rename_i f B u D;split at a
  case h_3=>cases a
  case h_2=>
   rename_i J j;cases c:fC ic.n ic.pin B with
   |false=>rw[c] at a;cases a
   |true=>
   rw[c] at a;have v:=fC.ok e c;refine gO.skip p D v ?_ (xp e k a);unfold i5;rw[l];simp only[u,j]
  rename_i s j;cases c:fC ic.n ic.pin B with
  |false=>rw[c] at a;cases a
  |true=>
  rw[c] at a;have v:=fC.ok e c;simp only[cond_true] at a;split at a
  ·rename_i o;obtain rfl:s=r:=(by simpa using o);have m:∀d,gt (⟨(f,.val .bool s)::b.g,b.h⟩:aO).g d=gt b.g d:=λd=>by
    show gt ((f,_)::b.g) d=_;rw[hj];split
    ·rename_i t;rw[<-t,j]
    rfl
   refine gO.same m rfl (JG e p ?_ a (λq c=>xp e k c));unfold i5;rw[l];simp only[u,m f,j];simp
  rename_i o;have G:s=!r:=by cases s<;>cases r<;>first|rfl|cases o
  have m:∀d,gt (⟨(f,.val .bool (!r))::b.g,b.h⟩:aO).g d=gt b.g d:=λd=>by
   show gt ((f,_)::b.g) d=_;rw[hj];split
   ·rename_i t;rw[<-t,j,G]
   rfl
  refine gO.same m rfl (gO.skip p D v ?_ (xp e k a));unfold i5;rw[l];simp only[u,m f,j];exact o
def RR (h:ic.ac E C) {c:Array Oper} {b:aO->Option A} {d:A} (g:∀a,b a=some d->u a) (e:jl ic c f i b=some d):gO E C c f i u:=by have:=xp (l2:=[]) h (λa j=>gO.nil (g a j)) e;rwa[jb] at this
end
end
structure iM (s t:aO):Prop where
 g:∀k,gt s.g k=gt t.g k
 h:∀id,au s.h id=au t.h id
def iM.refl (a:aO):iM a a:=⟨λ_=>rfl,λ_=>rfl⟩
def iM.symm {c d:aO} (b:iM c d):iM d c:=⟨λa=>(b.g a).symm,λa=>(b.h a).symm⟩
def iM.trans {d e f:aO} (b:iM d e) (c:iM e f):iM d f:=⟨λa=>(b.g a).trans (c.g a),λa=>(b.h a).trans (c.h a)⟩
def bm.rI (a:bm) (e:aO) (b:Nat):gt (a.app e).g b=match a.d with
 |some (c,f)=>if c=b then f else ef a.S a.keep (gt e.g b)
 |none=>ef a.S a.keep (gt e.g b):=by
 obtain⟨c,h,i,k⟩:=a;cases c with
 |none=>
  show gt (lK h i e.g) b=_;rw[om,nf]
 |some j=>
  obtain⟨c,f⟩:=j;show gt ((c,f)::lK h i e.g) b=_;rw[hj,om,nf]
def bm.qd (a:bm) (b:aO) (id:Nat):au (a.app b).h id=(au a.put id).or (if id∈a.S then none else au b.h id):=by show au (a.put++pi a.S b.h) id=_;rw[sd,iB,jT]
def iM.app {c t:aO} (b:iM c t) (a:bm):iM (a.app c) (a.app t):=
 ⟨λd=>by rw[bm.rI,bm.rI,b.g],λd=>by rw[bm.qd,bm.qd,b.h]⟩
def e3.seq {a:dn} {c:acZ} (b:iM i X) (d:e3 a i c v):e3 a X c v:=d.less (λe=>.inr (b.g e).symm) (λid=>(b.h id).symm)
def Bf:Option (Nat×ao)->ac3->Bool
 |some b,some a=>Nat.beq b.1 a
 |none,none=>true
 |_,_=>false
def q2:ao->Bool
 |.dead=>false
 |_=>true
def nC (b c:ac7):Bool:=b.all λa=>c9 a c
def nC.ok (b:nC f A=true):∀a∈f,a∈A:=λa c=>ej.1 (eJ.1 b a c)
def nA (a:ac7):ao->Bool
 |.ref id []=>c9 (id+500000) a
 |_=>false
def uP:Op->Bool
 |.move _=>true
 |_=>false
def Bx:Nat->List aW->Option (Nat×List aW)
 |k,.snd::a=>Bx (k+1) a
 |k,.fst::a=>some (k,a)
 |_,_=>none
def xk:List aW->Option (Nat×List aW)
 |.deref::.unst::a=>Bx 0 a
 |_=>none
def uI (q:List aW):ac3:=match q with
 |[]=>some 1
 |q=>match xk q with
  |some (a,[])=>some (2*a+2)
  |some (a,_::_)=>some (2*a+3)
  |none=>none
def o1:ao->Option c2
 |.ref id a=>match uI a with
  |some b=>some (id,b)
  |none=>none
 |.addr id a=>match uI a with
  |some b=>some (id,b)
  |none=>none
 |.app id a _ _ d=>match c9 id d,xk a with
  |false,some (c,_)=>some (id,2*c+3)
  |_,_=>none
 |_=>none
def qM (b:ac7) (a:ao):Bool:=match o1 a with
 |some (id,d)=>Nat.blt id 500000&&(c9 (id+1000000*d) b&&a.ids.all λc=>Nat.beq c id||c9 c b)
 |none=>false
def Cf (c:List aW) (a:Nat):Bool:=match xk c with
 |some (b,d)=>Nat.beq a 1||(Nat.ble 2 a&&(!(Nat.beq (a/2) (b+1))||(Nat.beq (a %2) 0&&ng d)))
 |none=>false
def qc (a:Operand->ao) (b:Oper):Option (Nat×List aW):=match b.op with
 |.call {callee:=.builtin .append,args:=xs,argTypes:=_}=>match xs.toList with
  |[x,_]=>match a x with
   |.ref id (d::c)=>some (id,d::c)
   |_=>none
  |_=>none
 |_=>none
def FZ (c:ac7) (b:Operand->ao) (d:Oper):Bool:=c.all λa=>Nat.blt a 1000000||(match qc b d with
 |some (id,e)=>Nat.beq (a %1000000) (id+500000)&&(Nat.blt id 500000&&Cf e (a/1000000))
 |none=>false)
def Sd (a:ac7) (c:List (Nat×List aW)) (b:ac7):Bool:=b.all λid=>Nat.blt id 500000&&((c9 id a&&(c9 (id+500000) a||jR c (.ref id [])))||c9 (id+1500000) a)
def zb:ao->Bool
 |.dv b=>b.all q2
 |a=>q2 a
def mD (op:Op) (b:ac7) (a:ao):Bool:=match op with
 |.extract _ d=>match a with
  |.dv e=>match e[d]? with
   |some c=>q2 c&&(nC c.ids b||nA b c)
   |none=>false
  |_=>false
 |op=>zb a&&(nC a.ids b||((uP op&&nA b a)||qM b a))
def oe (c e:ac7) (g:Operand->ao) (f:Oper) (b:bm):Bool:=
 Bf b.d f.dst&&(f.op.operands.toList.all λh=>mD f.op c (g h))&&Sd e b.keep b.S&&(b.put.all λa=>Nat.blt a.1 500000&&(c9 a.1 e||c9 (a.1+1500000) e))&&((match b.d with|some a=>nC a.2.ids c||(nA c a.2||qM c a.2)|none=>true)&&FZ e g f)
def gF {e:Type} (b:Bool) (d:Option a) (c:a->Option e):(bif b then d else none).bind c=bif b then d.bind c else none:=by cases b<;>rfl
def Yg (tt:List (TypeId×ai)) (d:List (Nat×aH)) (c:TypeId) (f e:ao) (b:bm->Option a):pN tt d c f e b=(pN tt d c f e some).bind b:=by
 unfold pN;split
 ·rfl
 split
 case h_2=>rfl
 split
 ·rfl
 rw[gF];congr 1;split
 ·split
  case h_2=>rfl
  cases Nat.beq _ _
  ·simp only[cond_false,ie,aG]
  rfl
 ·split
  case h_2=>rfl
  rw[gF];simp only[ie,aG]
 split
 ·simp only[ie,aG]
 rfl
def Fo (tt:List (TypeId×ai)) (d:List (Nat×aH)) (c:TypeId) (g e f:ao) (b:bm->Option a):mB tt d c g e f b=(mB tt d c g e f some).bind b:=by
 unfold mB;split
 case h_2=>rfl
 split
 case h_2=>rfl
 split
 case h_2=>rfl
 split
 case h_2=>rfl
 rw[gF];congr 1;split
 ·simp only[ie,aG]
 rfl
def SX (tt:List (TypeId×ai)) (e:List (Nat×aH)) (d:Nat) (c:TypeId) (g f:ao) (b:bm->Option a):pA tt e d c g f b=(pA tt e d c g f some).bind b:=by
 unfold pA;split
 case h_2=>rfl
 split
 case h_2=>rfl
 split
 case h_2=>rfl
 split
 case h_2=>rfl
 split
 case h_2=>rfl
 rw[gF];simp only[ie,aG]
def QH (tt:List (TypeId×ai)) (d:List (Nat×aH)) (c:TypeId) (g e f:ao) (b:bm->Option a):pk tt d c g e f b=(pk tt d c g e f some).bind b:=by
 unfold pk;split
 case h_2=>rfl
 rw[gF,Fo]
def SP (tt:List (TypeId×ai)) (d:List (Nat×aH)) (c:TypeId) (f e:ao) (b:bm->Option a):pz tt d c f e b=(pz tt d c f e some).bind b:=by
 unfold pz;split
 case h_2=>rfl
 split
 case h_2=>rfl
 split
 case h_2=>rfl
 split
 case h_2=>rfl
 rw[gF];simp only[ie,aG]
def O6 (tt:List (TypeId×ai)) (d:List (Nat×ai)) (f:List (Nat×aH)) (e:Nat) (c:TypeId) (g h:ao) (b:bm->Option a):mY tt d f e c g h b=(mY tt d f e c g h some).bind b:=by
 unfold mY;split
 ·rfl
 split
 ·split
  case h_2=>rfl
  rw[gF];congr 1;split
  ·simp only[ie,aG]
  split
  case h_2=>rfl
  split
  case h_2=>rfl
  split
  case h_2=>rfl
  cases Nat.beq _ _
  ·simp only[cond_false,ie,aG]
  rfl
 ·split
  case h_2=>rfl
  split
  case h_2=>rfl
  rw[gF];simp only[ie,aG]
 ·split
  case h_2=>rfl
  rw[gF];simp only[ie,aG]
 ·split
  case h_2=>rfl
  rw[gF];simp only[ie,aG]
 rfl
def O9 (tt:List (TypeId×ai)) (d:List (Nat×ai)) (f:List (Nat×aH)) (e:Nat) (c:TypeId) (g h:ao) (b:bm->Option a):mf tt d f e c g h b=(mf tt d f e c g h some).bind b:=by
 unfold mf;split
 ·unfold v5;split
  case h_2=>rfl
  split
  case h_2=>rfl
  split
  case h_2=>rfl
  rw[gF];simp only[ie,aG]
 exact O6 _ _ _ _ _ _ _ b
def Qc (tt:List (TypeId×ai)) (e:List (Nat×aH)) (d:Nat) (c:TypeId) (f g:ao) (b:bm->Option a):o2 tt e d c f g b=(o2 tt e d c f g some).bind b:=by
 unfold o2;split
 ·rfl
 split
 ·split
  case h_2=>rfl
  rw[gF];simp only[ie,aG]
 ·split
  case h_2=>rfl
  rw[gF];simp only[ie,aG]
 rfl
def Pt (tt:List (TypeId×ai)) (d:List (Nat×ai)) (g:List (Nat×aH)) (f:Operand->ao) (e:Nat) (c:TypeId) (h:List (Nat×Operand)) (b:bm->Option a):qh tt d g f e c h b=(qh tt d g f e c h some).bind b:=by
 unfold qh;split
 ·rfl
 split
 ·rw[gF];congr 1;split
  ·rw[gF];rfl
  rfl
 rw[gF];congr 1;split
 ·rfl
 split
 ·rw[gF];rfl
 rfl
def Pw (tt:List (TypeId×ai)) (d:List (Nat×ai)) (f:List (Nat×aH)) (e:Nat) (c:TypeId) (g:ao) (b:bm->Option a):rN tt d f e c g b=(rN tt d f e c g some).bind b:=by
 unfold rN;split
 ·split
  ·rw[gF];congr 1;split<;>rfl
  ·split
   ·rw[gF];rfl
   rfl
  rfl
 rfl
def PA (tt:List (TypeId×ai)) (d:List (Nat×ai)) (g:List (Nat×aH)) (f:Operand->ao) (e:Nat) (c:TypeId) (h:Nat) (i:List (Nat×Operand)) (b:bm->Option a):qj tt d g f e c h i b=(qj tt d g f e c h i some).bind b:=by
 unfold qj;split
 ·simp only;rw[gF];congr 1;split
  ·rfl
  split
  ·rw[gF];rfl
  rfl
 rfl
def xa {e:fo} (c:Operand->ao) (d:List (Nat×aH)) (f:Oper) (b:bm->Option a):al e c d f b=(al e c d f some).bind b:=by
 unfold al;split
 ·split
  ·exact Yg _ _ _ _ _ b
  ·exact Fo _ _ _ _ _ _ b
  ·exact Fo _ _ _ _ _ _ b
  ·exact QH _ _ _ _ _ _ b
  ·split
   case h_2=>rfl
   exact SP _ _ _ _ _ b
  rfl
 rw[gF];congr 1;split
 ·split
  case h_2=>rfl
  split
  ·split<;>rfl
  split<;>rfl
 ·split
  case h_2=>rfl
  split
  ·rfl
  rw[gF];congr 1;simp only[lJ,ie,gF,aG]
 ·split
  case h_2=>rfl
  rw[gF];congr 1;exact O9 _ _ _ _ _ _ _ b
 ·split
  case h_2=>rfl
  exact Qc _ _ _ _ _ _ b
 ·split
  ·rfl
  ·rfl
  ·rfl
  ·split
   ·rfl
   split
   ·simp only[ie,aG]
   simp only[ie,aG]
  simp only[ie,aG]
 ·exact Pt _ _ _ _ _ _ _ b
 ·exact SX _ _ _ _ _ _ b
 ·exact Pw _ _ _ _ _ _ b
 ·exact PA _ _ _ _ _ _ _ _ b
 split
 ·rfl
 ·simp only[ie,aG]
 ·rw[gF];simp only[ie,aG]
 split
 ·rfl
 ·simp only[ie,aG]
 rfl
def Qr {f:fo} (c:Operand->ao) (d:List (Nat×aH)) (e:Oper) (b:bm->Option a):iw f c d e b=(iw f c d e some).bind b:=by
 unfold iw;split
 ·exact xa c d e b
 rw[gF];congr 1;refine(xa _ _ _ _).trans (Eq.trans ?_ (congrArg (λg=>Option.bind g b) (xa _ _ _ _)).symm);simp only[ie,gF,aG]
def Jr:∀{d:List aW} {c b:Nat} {e:List aW},Bx c d=some (b,e)->c<=b/\d=List.replicate (b-c) .snd++.fst::e
 |[],_,_,_,a=>by cases a
 |s::d,c,b,e,a=>by
  cases s<;>simp only[Bx] at a<;>first|(cases a;done)|skip
  ·cases a;exact⟨a6 _,ab⟩
  obtain⟨g,f⟩:=Jr a;refine⟨U,?_⟩;rw[(U:b-c=(b-(c+1))+1),List.replicate_succ,jc,<-f]
def By {c:List aW} (a:xk j=some (b,c)):j=.deref::.unst::(List.replicate b .snd++.fst::c):=by
 unfold xk at a;split at a
 ·rename_i j;have:=(Jr a).2;rw[Nat.sub_zero] at this;rw[this]
 cases a
def Bc:∀{j k:Nat} {r r':List aW},j≠k->jf (List.replicate j .snd++.fst::r) (List.replicate k .snd++.fst::r')=true
 |0,0,_,_,a=>absurd rfl a
 |0,k+1,_,_,_=>rfl
 |j+1,0,_,_,_=>rfl
 |j+1,k+1,r,r',a=>Bc (j:=j) (k:=k) (r:=r) (r':=r') (λb=>a (by rw[b]))
def JT:∀{j:Nat} {r:List aW},fj (List.replicate j .snd++.fst::r) (List.replicate j .snd++[.fst])=ng r
 |0,r=>by cases r<;>rfl
 |j+1,r=>JT (j:=j) (r:=r)
def Wm {id:Nat} (h:Cf j b=true) (e:o1 d=some (id,b)) (z:∀k∈d.ids,k=id\/k∉f):hM f [(id,j),(id,[])] d=true:=by
 unfold Cf at h;split at h
 case h_2=>cases h
 rename_i k t E;have p:=By E;have C:ng j=true:=(by rw[p];rfl);have H:∀i:Nat,Nat.beq i i=true:=p7;have w:∀g,uI g=some b->fj j g=true:=by
  intro g l;unfold uI at l;split at l
  ·have:fj j []=ng j:=by cases j with|nil=>rfl|cons q j=>cases q<;>rfl
   rw[this];exact C
  split at l
  ·rename_i a o;cases l;rw[By o,p];have m:(2*a+2)/2=a+1:=U;have n:(2*a+2) %2=0:=U;rw[m,n] at h;show fj (List.replicate k .snd++.fst::t) (List.replicate a .snd++[.fst])=true;by_cases c:k=a
   ·subst c;rw[JT];simpa using h
   exact Bb (Bc c)
  ·rename_i a q F o;cases l;rw[By o,p];have m:(2*a+3)/2=a+1:=U;have n:(2*a+3) %2=1:=U;rw[m,n] at h;show fj (List.replicate k .snd++.fst::t) (List.replicate a .snd++.fst::(q::F))=true;by_cases c:k=a
   ·subst c;simp at h
   exact Bb (Bc c)
  cases l
 unfold o1 at e;split at e
 ·rename_i i g;split at e
  case h_2=>cases e
  rename_i y r;cases e;cases g with
  |nil=>simp[hM,jR]
  |cons q g=>simp[hM,jR,w _ r]
 ·rename_i i g;split at e
  case h_2=>cases e
  rename_i y r;cases e;simp[hM,jR,EU,w _ r]
 ·rename_i i g J I v;split at e
  case h_2=>cases e
  rename_i a G u o;cases e;have m:(2*a+3)/2=a+1:=U;have n:(2*a+3) %2=1:=U;rw[m,n] at h;have A:jf j g=true:=by
   rw[By o,p];show jf (List.replicate k .snd++.fst::t) (List.replicate a .snd++.fst::G)=true;by_cases c:k=a
   ·subst c;simp at h
   exact Bc c
  have D:(v.all λi=>!(c9 i f))=true:=eJ.2 λx s=>by
   rcases z x (e1 _ s) with c|c
   ·rw[c] at s;rw[ej.2 s] at u;cases u
   cases B:c9 x f
   ·rfl
   exact absurd (ej.1 B) c
  show((v.all λi=>!(c9 i f))&&([(id,j),(id,[])].any λc=>Nat.beq c.1 id&&jf c.2 g))=true;rw[D];simp[A]
 cases e
section
def Fk {g B:Operand->ao} {b:List (Nat×Operand)} (d:∀e∈b,g e.2=B e.2):∀(f:ai) (a:Nat),oq g b f a=oq B b f a
 |.pr j h,a=>by
  simp only[oq,Fk d h (a+1)];cases i:kj b a with
  |none=>rfl
  |some c=>
   have:g c=B c:=d (a,c) (xC i);simp only[this]
 |.nil,_=>rfl
 |.int _,_=>rfl
 |.bool,_=>rfl
 |.str,_=>rfl
 |.a5 _ _,_=>rfl
 |.ptr _ _,_=>rfl
 |.osl _,_=>rfl
 |.optr _,_=>rfl
 |.st _,_=>rfl
 |.c6,_=>rfl
 |.mp _,_=>rfl
 |.dB _ _,_=>rfl
def Km {h:List (Nat×aH)} {g B:Operand->ao} {b:List (Nat×Operand)} (d:∀e∈b,g e.2=B e.2):∀(f:ai) (a:Nat),k6 h g b f a=k6 h B b f a
 |.pr k i,a=>by
  simp only[k6,Km d i (a+1)];cases j:kj b a with
  |none=>rfl
  |some c=>
   have:g c=B c:=d (a,c) (xC j);simp only[this]
 |.nil,_=>rfl
 |.int _,_=>rfl
 |.bool,_=>rfl
 |.str,_=>rfl
 |.a5 _ _,_=>rfl
 |.ptr _ _,_=>rfl
 |.osl _,_=>rfl
 |.optr _,_=>rfl
 |.st _,_=>rfl
 |.c6,_=>rfl
 |.mp _,_=>rfl
 |.dB _ _,_=>rfl
section
variable {tt:List (TypeId×ai)} {an:List (Nat×ai)} {h A:List (Nat×aH)} {d:Nat} {g B:Operand->ao}
def Ce {a:acY} (c:∀b∈a.toArray,g b=B b):a.map g=a.map B:=by
 cases a with
 |none=>rfl
 |some b=>simp only[fd,bF];exact c b ab
def QO (e:∀a∈N.operands,g a=B a):e6 tt an h g d N=e6 tt an h B d N:=by
 cases N
 case build k ps=>
  have:∀b∈ps.toList,g b.2=B b.2:=λb l=>e b.2 (by simp only[Op.operands,vP,bR];exact⟨b,l,rfl⟩);simp only[e6,v8,Fk this]
 case buildSlice k n ps=>
  have:∀b∈ps.toList,g b.2=B b.2:=λb l=>e b.2 (by simp only[Op.operands,vP,bR];exact⟨b,l,rfl⟩);simp only[e6,tU,hZ this]
 case slice k a p hi v=>
  simp only[Op.operands] at e;have s:g a=B a:=e a ab;have t:p.map g=p.map B:=Ce (λj f=>e j (by simp at f|-;simp[f]));have u:hi.map g=hi.map B:=Ce (λj f=>e j (by simp at f|-;simp[f]));cases v
  ·simp only[e6,s,t,u]
  rfl
 case makeMap k o=>
  cases o<;>rfl
 case makeFunc r x cs=>
  cases r<;>try rfl
  have:∀a∈cs.toList,g a=B a:=λa m=>e a (by simp only[Op.operands];exact oJ _ (by simpa using m));simp only[e6,hZ this]
 case call c=>
  obtain⟨w,q,y⟩:=c;have i:∀a∈q.toList,g a=B a:=λa m=>e a (by simp only[Op.operands,Call.operands];exact oJ _ (by simpa using m));clear e;simp only[e6];split
  ·rename_i a k al _;rw[al] at i;rw[i a ab]
  ·rename_i a o al;rw[al] at i;rw[i a ab,hZ (λj f=>i j (by simp[f]))]
  ·rename_i a o al;rw[al] at i;rw[i a ab,hZ (λj f=>i j (by simp[f]))]
  rfl
 all_goals (simp only[Op.operands] at e;simp only[e6])
 all_goals (first|rfl|(simp_all;done))
def QR (b:∀a∈N.operands,g a=B a):iW tt an h g d N=iW tt an h B d N:=by
 cases N
 case slice j a l hi q=>
  simp only[Op.operands] at b;have f:g a=B a:=b a ab;have n:l.map g=l.map B:=Ce (λi e=>b i (by simp at e|-;simp[e]));have o:hi.map g=hi.map B:=Ce (λi e=>b i (by simp at e|-;simp[e]));cases q
  ·simp only[iW,f,n,o]
  rfl
 case call c=>
  obtain⟨s,m,t⟩:=c;have k:∀a∈m.toList,g a=B a:=λa p=>b a (by simp only[Op.operands,Call.operands];exact oJ _ (by simpa using p));clear b;simp only[iW];split
  ·rename_i a j al _;rw[al] at k;rw[k a ab]
  rfl
 case unOp r j a=>
  have f:g a=B a:=b a (by simp[Op.operands]);cases r<;>simp only[iW,f]
 all_goals (simp only[Op.operands] at b;simp only[iW])
 all_goals (first|rfl|(simp_all;done))
def IQ {q:fo} {s:Oper} {v:bm->Option a} (b:∀e∈s.op.operands,g e=B e):al q g h s v=al q B h s v:=by
 have A:=λ(d:Nat)=>QR (tt:=q.tt) (an:=q.an) (h:=h) (d:=d) b;have z:=λ(d:Nat)=>QO (tt:=q.tt) (an:=q.an) (h:=h) (d:=d) b;unfold al;cases C:s.dst with
 |none=>
  simp only;split
  ·rename_i k e o c;rw[c] at b;rw[b e (by simp[Op.operands]),b o (by simp[Op.operands])]
  ·rename_i k e n o c;rw[c] at b;rw[b e (by simp[Op.operands]),b n (by simp[Op.operands]),b o (by simp[Op.operands])]
  ·rename_i k e n o c;rw[c] at b;rw[b e (by simp[Op.operands]),b n (by simp[Op.operands]),b o (by simp[Op.operands])]
  ·rename_i k e n o c;rw[c] at b;rw[b e (by simp[Op.operands]),b n (by simp[Op.operands]),b o (by simp[Op.operands])]
  ·rename_i l x c;rw[c] at b;split
   ·rename_i e p k w al _;have i:∀f∈l.toList,g f=B f:=λf m=>b f (by simp only[Op.operands,Call.operands];exact oJ _ (by simpa using m));rw[al] at i;rw[i e ab,i p ab]
   rfl
  rfl
 |some d=>
  simp only;congr 1;split
  ·rename_i y e p c;rw[c] at b;rw[b y (by simp[Op.operands]),b e (by simp[Op.operands]),b p (by simp[Op.operands])]
  ·rename_i f l _ c;rw[c] at b;have:l.toList.map g=l.toList.map B:=hZ λe i=>b e (by simp only[Op.operands,Call.operands];exact oJ _ (by simpa using i));have m:g f=B f:=b f (by simp[Op.operands,Call.operands]);rw[this,m]
  ·rename_i l x c;rw[c] at b;split
   ·rename_i e p k w al _;have i:∀f∈l.toList,g f=B f:=λf m=>b f (by simp only[Op.operands,Call.operands];exact oJ _ (by simpa using m));rw[al] at i;rw[i e ab,i p ab]
   rfl
  ·rename_i l x c;rw[c] at b;split
   ·rename_i e p k w al _;have i:∀f∈l.toList,g f=B f:=λf m=>b f (by simp only[Op.operands,Call.operands];exact oJ _ (by simpa using m));rw[al] at i;rw[i e ab,i p ab]
   rfl
  ·rename_i e c;rw[c] at b;rw[b e (by simp[Op.operands])]
  ·rename_i k u c;rw[c] at b;have r:∀j∈u.toList,g j.2=B j.2:=λj t=>b j.2 (by simp only[Op.operands,vP,bR];exact⟨j,t,rfl⟩);simp only[qh,Fk r,Km r]
  ·rename_i k e n c;rw[c] at b;rw[b e (by simp[Op.operands]),b n (by simp[Op.operands])]
  ·rename_i k e c;rw[c] at b;rw[b e (by simp[Op.operands])]
  ·rename_i k D u c;rw[c] at b;have r:∀j∈u.toList,g j.2=B j.2:=λj t=>b j.2 (by simp only[Op.operands,vP,bR];exact⟨j,t,rfl⟩);simp only[qj,hZ r]
  rw[A,z]
def eu (h A:List (Nat×aH)) (a:ao):Prop:=∀id∈a.ids,au h id=au A id
def Wq (a:eu h A t):pF h t=pF A t:=by
 cases t with
 |ref id b=>simp only[pF,a id (by simp[ao.ids])]
 |_=>rfl
def Wp {id:Nat} (a:pF h t=some (id,j)):id∈t.ids:=by
 unfold pF at a;split at a
 ·cases a;simp[ao.ids]
 ·split at a
  ·split at a
   ·cases a;simp[ao.ids]
   cases a
  cases a
 cases a
def Yh {b:ao} {d:bm->Option a} (e:eu h A b) (g:eu h A t):pN tt h c b t d=pN tt A c b t d:=by
 unfold pN;rw[<-Wq e];split
 ·rfl
 rename_i id j f;rw[e id (Wp f)];cases t with
 |ref i k=>simp only[g i (by simp[ao.ids])]
 |_=>rfl
def NS (a:eu h A t):jw h n t=jw A n t:=by
 cases t with
 |ref id b=>simp only[jw,a id (by simp[ao.ids])]
 |view id b e d=>simp only[jw,a id (by simp[ao.ids])]
 |val c g=>cases c<;>rfl
 |bQ f=>unfold jw;split<;>first|rfl|(split<;>first|rfl|simp_all)
 |_=>rfl
def O7 {f:ao} {j:bm->Option a} (g:eu h A f) (k:eu h A t) (n:au h d=au A d):mY tt an h d c f t j=mY tt an A d c f t j:=by
 unfold mY;split
 ·rfl
 have e:∀i:ai,jw h i t=jw A i t:=λi=>NS k;cases f with
 |ref id b=>
  cases b with
  |nil=>
   simp only[g id (by simp[ao.ids]),e];cases t with
   |ref o l=>
    cases l with
    |nil=>simp only[k o (by simp[ao.ids])]
    |cons m l=>rfl
   |_=>rfl
  |cons m b=>simp only[g id (by simp[ao.ids]),e,n]
 |view id b q p=>
  cases b with
  |nil=>simp only[g id (by simp[ao.ids]),e]
  |cons m b=>rfl
 |bQ r=>simp only[e];split<;>first|rfl|(split<;>first|rfl|simp_all)
 |_=>rfl
def We {a:ao} (d:eu h A t):sU h a t=sU A a t:=by
 unfold sU;cases a with
 |ref id b=>
  cases b with
  |nil=>rfl
  |cons f b=>
   cases t with
   |ref e c=>
    cases c with
    |nil=>simp only[d e (by simp[ao.ids])]
    |cons g c=>rfl
   |_=>rfl
 |_=>rfl
def Pa {b:ao} {e:bm->Option a} (g:eu h A t) (i:eu h A b) (f:au h d=au A d):mf tt an h d c t b e=mf tt an A d c t b e:=by
 unfold mf;rw[We i,O7 g i f];split
 ·rename_i id l k m j;obtain⟨rfl,_,_⟩:=FX j;unfold v5;rw[g id (by simp[ao.ids]),f]
 rfl
def Qd {e:ao} {g:bm->Option a} (i:eu h A e) (k:eu h A t):o2 tt h d c e t g=o2 tt A d c e t g:=by
 unfold o2;split
 ·rfl
 have j:∀f:ai,jw h f t=jw A f t:=λf=>NS k;cases e with
 |ref id b=>
  cases b with
  |nil=>simp only[i id (by simp[ao.ids]),j]
  |cons l b=>rfl
 |view id b n m=>
  cases b with
  |nil=>simp only[i id (by simp[ao.ids]),j]
  |cons l b=>rfl
 |_=>rfl
def Du (b:eu h A t):n4 an h d t=n4 an A d t:=by
 cases t with
 |ref id a=>
  cases a with
  |nil=>simp only[n4,b id (by simp[ao.ids])]
  |cons c a=>rfl
 |view id a f e=>
  cases a with
  |nil=>simp only[n4,b id (by simp[ao.ids])]
  |cons c a=>rfl
 |bQ t=>unfold n4;split<;>first|rfl|(split<;>first|rfl|simp_all)
 |_=>rfl
def Wj (b:eu h A t):vf h n t=vf A n t:=by
 cases t with
 |ref id a=>
  cases a with
  |nil=>simp only[vf,b id (by simp[ao.ids])]
  |cons c a=>rfl
 |_=>rfl
def Kn {b:List (Nat×Operand)} (c:∀i∈b,eu h A (g i.2)):∀(d:ai) (a:Nat),k6 h g b d a=k6 A g b d a
 |.pr k e,a=>by
  simp only[k6,Kn c e (a+1)];cases f:kj b a with
  |none=>rfl
  |some j=>simp only[Wj (c (a,j) (xC f))]
 |.nil,_=>rfl
 |.int _,_=>rfl
 |.bool,_=>rfl
 |.str,_=>rfl
 |.a5 _ _,_=>rfl
 |.ptr _ _,_=>rfl
 |.osl _,_=>rfl
 |.optr _,_=>rfl
 |.st _,_=>rfl
 |.c6,_=>rfl
 |.mp _,_=>rfl
 |.dB _ _,_=>rfl
def PX (b:eu h A t):rP h n t=rP A n t:=by
 cases t with
 |ref id a=>
  cases a with
  |nil=>simp only[rP,b id (by simp[ao.ids])]
  |cons c a=>rfl
 |_=>rfl
def Iq {c:ai}:∀{l:List ao},(∀a∈l,eu h A a)->rQ h c l=rQ A c l
 |[],_=>rfl
 |x::e,b=>by simp only[rQ,PX (b x ab),Iq (l:=e) (λa d=>b a (by simp[d]))]
def HR (a:eu h A t):mg h f t n=mg A f t n:=by
 cases t with
 |ref id b=>simp only[mg,a id (by simp[ao.ids])]
 |_=>rfl
def ao.Ki {id:Nat} (c:t∈L) (e:id∈t.ids):id∈(ao.df b L).ids:=by obtain⟨a,d,rfl⟩:=gD.1 c;exact ao.xK (l:=L) (i:=a) (a9 d) e
def Jw {b:ac7}:∀{τs:List ai} {avs:List ao},(∀a∈avs,eu h A a)->nc h b τs avs=nc A b τs avs
 |[],[],_=>rfl
 |[],_::_,_=>rfl
 |_::_,[],_=>rfl
 |τ::f,d::as,c=>by simp only[nc,HR (c d ab),Jw (τs:=f) (avs:=as) (λa e=>c a (by simp[e]))]
def qI {S:ac7}:∀{ps:List fu} {avs:List ao},(∀b∈avs,eu h A b)->ea h S ps avs=ea A S ps avs
 |[],[],_=>rfl
 |[],_::_,_=>rfl
 |p::f,[],_=>by cases p<;>rfl
 |.v q::f,g::as,a=>by simp only[ea,HR (a g ab),qI (ps:=f) (avs:=as) (λb d=>a b (by simp[d]))]
 |.c z r::f,g::as,a=>by
  have e:=qI (S:=S) (ps:=f) (avs:=as) (λb d=>a b (by simp[d]));cases g with
  |df u i=>
   have:nc h S r i=nc A S r i:=Jw (λb d id t=>a (.df u i) ab id (ao.Ki d t));simp only[ea,this,e]
  |_=>rfl
 |.m q::f,g::as,a=>by
  have e:=qI (S:=S) (ps:=f) (avs:=as) (λb d=>a b (by simp[d]));cases g with
  |ref id p=>
   cases p with
   |nil=>simp only[ea,a (.ref id []) ab id (by simp[ao.ids]),e]
   |cons l p=>rfl
  |_=>rfl
 |.o q::f,g::as,a=>by
  have e:=qI (S:=S) (ps:=f) (avs:=as) (λb d=>a b (by simp[d]));cases g with
  |ref id p=>
   cases p with
   |nil=>simp only[ea,a (.ref id []) ab id (by simp[ao.ids]),e]
   |cons l p=>rfl
  |bQ x=>simp only[ea,e]
  |_=>rfl
 |.w B::f,g::as,a=>by
  have e:=qI (S:=S) (ps:=f) (avs:=as) (λb d=>a b (by simp[d]));cases g with
  |view id p k j=>
   cases p with
   |nil=>simp only[ea,a (.view id [] k j) ab id (by simp[ao.ids]),e]
   |cons l p=>rfl
  |_=>rfl
 |.n::f,g::as,a=>by
  have e:=qI (S:=S) (ps:=f) (avs:=as) (λb d=>a b (by simp[d]));cases g with
  |bQ x=>simp only[ea,e]
  |_=>rfl
 |.s y i::f,g::as,a=>by
  have e:=qI (S:=S) (ps:=f) (avs:=as) (λb d=>a b (by simp[d]));cases g with
  |ref id p=>cases p<;>simp only[ea,e]
  |view id p k j=>cases p<;>simp only[ea,e]
  |_=>simp only[ea,e]
def Ss (a:eu h A t):sC tt h c t=sC tt A c t:=by
 unfold sC;cases t with
 |ref id d=>simp only[a id (by simp[ao.ids])]
 |app id d b i f=>simp only[a id (by simp[ao.ids])]
 |val b j=>cases eX tt c with|none=>rfl|some e=>cases b<;>rfl
 |bQ g=>cases eX tt c with|none=>rfl|some e=>simp only;split<;>first|rfl|(split<;>first|rfl|simp_all)
 |_=>rfl
def S5 (a:eu h A t):sK tt h c t=sK tt A c t:=by
 unfold sK;cases t with
 |ref id d=>simp only[a id (by simp[ao.ids])]
 |val b f=>cases jo tt c with|none=>rfl|some e=>cases b<;>rfl
 |_=>rfl
def SB {a:ao} (b:eu h A t):sE tt h c t a I=sE tt A c t a I:=by
 unfold sE;cases t with
 |ref id e=>simp only[b id (by simp[ao.ids])]
 |val d f=>split<;>first|rfl|(cases d<;>rfl)
 |_=>split<;>rfl
def S3 (a:au h d=au A d):u2 tt an h d c=u2 tt an A d c:=by unfold u2;rw[a]
def Fp {b:bm->Option a} {d e:ao} (f:eu h A t):mB tt h c t d e b=mB tt A c t d e b:=by
 unfold mB;cases t with
 |ref id g=>simp only[f id (by simp[ao.ids])]
 |_=>rfl
def SY {b:bm->Option a} {e:ao} (f:eu h A t):pA tt h d c t e b=pA tt A d c t e b:=by
 unfold pA;cases t with
 |ref id g=>simp only[f id (by simp[ao.ids])]
 |_=>rfl
def QI {d:bm->Option a} {b e:ao} (f:eu h A t):pk tt h c t b e d=pk tt A c t b e d:=by
 unfold pk;cases t with
 |ref id j=>
  cases b with
  |iV g k i=>simp only[Fp f]
  |_=>rfl
 |_=>rfl
def SQ {b:bm->Option a} {d:ao} (e:eu h A t):pz tt h c t d b=pz tt A c t d b:=by
 unfold pz;cases t with
 |ref id f=>simp only[e id (by simp[ao.ids])]
 |_=>rfl
def RT {b:ao} (a:eu h A t):sx tt h c t b=sx tt A c t b:=by
 unfold sx;cases t with
 |ref id d=>simp only[a id (by simp[ao.ids])]
 |view id d g f=>simp only[a id (by simp[ao.ids])]
 |val e j=>cases e<;>rfl
 |bQ i=>rfl
 |_=>rfl
def Sy (a:eu h A t):sD tt h c t=sD tt A c t:=by
 unfold sD;cases t with
 |ref id b=>simp only[a id (by simp[ao.ids])]
 |addr id b=>simp only[a id (by simp[ao.ids])]
 |val e d=>cases e<;>first|rfl|(cases d<;>rfl)
 |bQ f=>rfl
 |_=>rfl
def Rl (a:eu h A t):sq tt h c t b=sq tt A c t b:=by
 unfold sq;cases t with
 |ref id d=>simp only[a id (by simp[ao.ids])]
 |addr id d=>simp only[a id (by simp[ao.ids])]
 |val g f=>cases g<;>first|rfl|(rename_i i e;cases f<;>first|rfl|(cases e<;>rfl))
 |bQ j=>rfl
 |_=>rfl
def Rn (a:eu h A t):ia.uJ tt h c t b=ia.uJ tt A c t b:=by
 unfold ia.uJ;cases t with
 |ref id e=>simp only[a id (by simp[ao.ids])]
 |val d g=>cases d<;>rfl
 |bQ f=>rfl
 |_=>rfl
def Th (a:eu h A t):sN h t=sN A t:=by
 unfold sN;cases t with
 |ref id c=>simp only[a id (by simp[ao.ids])]
 |val b e=>cases b<;>rfl
 |bQ d=>rfl
 |_=>rfl
def X1 {b a:Option ao} (d:eu h A t):s9 tt h c t b a=s9 tt A c t b a:=by
 unfold s9;cases t with
 |ref id f=>simp only[d id (by simp[ao.ids])]
 |val e i=>cases e<;>rfl
 |bQ g=>rfl
 |_=>rfl
def SL {a:ao} (b:au h d=au A d):sH tt an h d c a t=sH tt an A d c a t:=by unfold sH;rw[b]
def O0 (a:au h d=au A d):tK tt an h d c=tK tt an A d c:=by unfold tK;rw[a]
def QP (e:∀a∈N.operands,eu h A (g a)) (f:au h d=au A d):e6 tt an h g d N=e6 tt an A g d N:=by
 cases N
 case box b a=>simp only[e6,v9];rw[f]
 case buildSlice b n ps=>simp only[e6,tU];rw[f]
 case alloc b=>exact O0 f
 case makeSlice b l c=>exact SL f
 case makeMap b r=>
  cases r
  ·exact S3 f
  rfl
 case lookup b a k ok=>exact SB (e a (by simp[Op.operands]))
 case load b a=>exact Sy (e a (by simp[Op.operands]))
 case nilCheck a=>exact Th (e a (by simp[Op.operands]))
 case indexAddr b a i=>exact RT (e a (by simp[Op.operands]))
 case fieldAddr b a n=>exact Rl (e a (by simp[Op.operands]))
 case field b a n=>exact Rn (e a (by simp[Op.operands]))
 case slice b a u hi q=>
  cases q
  ·exact X1 (e a (by simp[Op.operands]))
  rfl
 case call c=>
  obtain⟨s,m,v⟩:=c;have j:∀a∈m.toList,eu h A (g a):=λa p=>e a (by simp only[Op.operands,Call.operands];exact oJ _ (by simpa using p));clear e;simp only[e6];split
  ·rename_i a b al _;rw[al] at j;split;exact Ss (j a ab);exact S5 (j a ab)
  ·rfl
  ·rfl
  rfl
 case makeFunc o t cs=>cases o<;>rfl
 all_goals rfl
def QS (j:∀b∈N.operands,eu h A (g b)) (r:au h d=au A d):iW tt an h g d N=iW tt an A g d N:=by
 cases N
 case lookup f b k ok=>
  have a:=j b (by simp[Op.operands]);simp only[iW];split
  ·rename_i w id e z al q y;rw[q] at a;rw[a id (by simp[ao.ids])]
  rfl
 case makeSlice f l c=>simp only[iW,r]
 case unOp v f b=>cases v<;>rfl
 case indexAddr f b i=>
  have a:=j b (by simp[Op.operands]);simp only[iW];revert a;cases g b with
  |ref id e=>intro a;simp only[a id (by simp[ao.ids])]
  |view id e t s=>
   intro a;cases e with
   |nil=>simp only[a id (by simp[ao.ids])]
   |cons=>rfl
  |val m o=>intro _;cases m<;>rfl
  |_=>intro _;rfl
 case load f b=>
  have a:=j b (by simp[Op.operands]);simp only[iW];revert a;cases g b with
  |ref id e=>intro a;simp only[a id (by simp[ao.ids])]
  |addr id e=>intro a;simp only[a id (by simp[ao.ids])]
  |val m o=>intro _;cases m<;>rfl
  |_=>intro _;rfl
 case slice f b t s u=>
  have a:=j b (by simp[Op.operands]);cases u
  ·simp only[iW];revert a;cases g b with
   |ref id e=>intro a;simp only[a id (by simp[ao.ids])]
   |val m o=>intro _;cases m<;>rfl
   |_=>intro _;rfl
  rfl
 case call c=>
  obtain⟨x,p,B⟩:=c;have n:∀b∈p.toList,eu h A (g b):=λb a=>j b (by simp only[Op.operands,Call.operands];exact oJ _ (by simpa using a));clear j;simp only[iW];split
  ·rename_i b f al _;rw[al] at n;have a:=n b ab;cases eX tt f with
   |none=>
    revert a;cases g b with
    |ref id e=>intro a;simp only;rw[a id (by simp[ao.ids])]
    |_=>intro _;rfl
   |some w=>
    revert a;cases g b with
    |ref id e=>intro a;simp only;rw[a id (by simp[ao.ids])]
    |_=>intro _;rfl
  rfl
 all_goals rfl
def qW {a:Callee} (b:m∈R.toList):m∈(Op.call {callee:=a,args:=R,argTypes:=V}).operands:=by simp only[Op.operands,Call.operands];exact oJ _ (by simpa using b)
def IR {D:fo} {z:Oper} (a:al D g h z some=some p) (b:∀i∈z.op.operands,eu h A (g i)) (t:∀d,z.dst=some d->au h d=au A d) (x:∀c∈p.put,au h c.1=au A c.1):al D g A z some=some p:=by
 unfold al at a|-;cases G:z.dst with
 |none=>
  rw[G] at a;simp only at a|-;split at a
  ·rename_i o i B e;rw[e] at b;rw[<-Yh (b i (by simp[Op.operands])) (b B (by simp[Op.operands]))];exact a
  ·rename_i o i I B e;rw[e] at b;rw[<-Fp (b i (by simp[Op.operands]))];exact a
  ·rename_i o i I B e;rw[e] at b;rw[<-Fp (b i (by simp[Op.operands]))];exact a
  ·rename_i o i U B e;rw[e] at b;rw[<-QI (b i (by simp[Op.operands]))];exact a
  ·rename_i r P e;rw[e] at b;split at a
   case h_2=>cases a
   rename_i i I o L al M;have l:∀k∈r.toList,eu h A (g k):=λk v=>b k (qW v);rw[al] at l;rw[<-SQ (l i ab)];exact a
  cases a
 |some d=>
  rw[G] at a;have t:=t d G;simp only at a|-;cases O:fC D.n D.pin d with
  |false=>rw[O] at a;cases a
  |true=>
  rw[O] at a;simp only[cond_true] at a|-;split at a
  ·rename_i V i C e;exact a
  ·rename_i k r _ e;rw[e] at b;split at a
   case h_2=>cases a
   rename_i Q J v
   try rw[v]
   try simp only
   have l:∀s∈r.toList.map g++J,eu h A s:=λs q=>by
    rcases dX.1 q with q|q
    ·obtain⟨i,j,rfl⟩:=bR.1 q;exact b i (qW j)
    intro id S;exact b k (by simp[Op.operands,Call.operands]) id (by rw[v];exact ao.Ki q S)
   split at a
   ·cases a
   rename_i m W;cases N:Nat.beq m.f Q with
   |false=>rw[N] at a;cases a
   |true=>
   rw[N] at a;simp only[cond_true,lJ] at a|-;rw[<-qI l];obtain⟨s,q,a⟩:=bZ.1 a;obtain⟨w,T,a⟩:=bZ.1 a;simp only[q,T,aG];cases F:lF d ⟨[],h⟩ (r.toList.map g++J) (eO m.ps s w) (hl m.rs (gI m.ps w)) with
   |false=>rw[F] at a;cases a
   |true=>
   rw[F] at a;have R:lF d ⟨[],A⟩ (r.toList.map g++J) (eO m.ps s w) (hl m.rs (gI m.ps w))=true:=(by rw[<-F];unfold lF;congr 1;rw[lZ,eJ,eJ];cases a;have u:∀c∈hm d (g7 (hl m.rs (gI m.ps w))) 0 (hl m.rs (gI m.ps w)),au h c.1=au A c.1:=λc u=>x c (by simp only[dX];exact .inr u);exact⟨λH c y=>by rw[show au (aO.mk [] h).h c.1=au h c.1 from rfl,u c y];exact H c y,λH c y=>by rw[show au (aO.mk [] A).h c.1=au A c.1 from rfl,<-u c y];exact H c y⟩);rw[R];exact a
  ·rename_i r P e;rw[e] at b;split at a
   case h_2=>cases a
   rename_i i C o L al M;have l:∀k∈r.toList,eu h A (g k):=λk v=>b k (qW v);rw[al] at l;rw[<-Pa (l i ab) (l C ab) t];exact a
  ·rename_i r P e;rw[e] at b;split at a
   case h_2=>cases a
   rename_i i C o L al M;have l:∀k∈r.toList,eu h A (g k):=λk v=>b k (qW v);rw[al] at l;rw[<-Qd (l i ab) (l C ab)];exact a
  ·rename_i i e;rw[e] at b;have j:=b i (by simp[Op.operands]);revert a j;cases g i with
   |val ad C=>intro a _;exact a
   |bQ B=>intro a j;simp only[<-Du j];exact a
   |ref id E=>intro a j;simp only[<-Du j];exact a
   |view id E Y X=>intro a j;simp only[<-Du j];exact a
   |_=>intro a _;exact a
  ·rename_i o K e;rw[e] at b;have x:∀c∈K.toList,eu h A (g c.2):=λc u=>b c.2 (by simp only[Op.operands,vP,bR];exact⟨c,u,rfl⟩);rw[<-a];simp only[qh,Kn x,t]
  ·rename_i o i I e;rw[e] at b;rw[<-SY (b i (by simp[Op.operands]))];exact a
  ·rename_i o i e;rw[e] at b;have j:=b i (by simp[Op.operands]);rw[<-a];simp only[rN,t];revert j;cases g i with
   |ref id E=>
    intro j;cases E with
    |nil=>simp only[j id (by simp[ao.ids])]
    |cons U E=>rfl
   |_=>intro _;rfl
  ·rename_i o Z K e;rw[e] at b;have x:∀s∈K.toList.map (λc=>g c.2),eu h A s:=λs q=>by
    obtain⟨c,u,rfl⟩:=bR.1 q;exact b c.2 (by simp only[Op.operands,vP,bR];exact⟨c,u,rfl⟩)
   rw[<-a];simp only[qj,Iq x,t]
  rw[QS b t,QP b t] at a;exact a
end
def NF:∀d∈pR N,d∈N.operands:=by
 intro d b;cases N<;>simp only[pR] at b<;>first|(cases b;done)|skip
 case assign y=>simpa[Op.operands] using b
 case box T y=>simpa[Op.operands] using b
 case build T ps=>simpa[Op.operands] using b
 case buildSlice T n ps=>simpa[Op.operands] using b
 case store T a v=>simp at b;simp[Op.operands,b]
 case mapUpdate T a k v=>simp at b;simp[Op.operands,b]
 case insert T a k v=>simp at b;simp[Op.operands,b]
 case entryStore T a k v=>simp at b;simp[Op.operands,b]
 case call c=>
  obtain⟨f,e,g⟩:=c;simp only at b;split at b
  ·exact qW b
  ·exact qW (List.mem_of_mem_drop b)
  cases b
def Bv {e:ac9} {i:Nat} {g:Operand->ao}:∀{d:List Operand},∀id∈kC e i g d,∃x∈d,g x=.ref id []
 |[],id,h=>by cases h
 |x::d,id,h=>by
  simp only[kC] at h;split at h
  ·rename_i j f;rw[Bool.cond_eq_ite] at h;split at h
   ·rcases dg.1 h with rfl|h
    ·exact⟨x,ab,f⟩
    obtain⟨c,b,a⟩:=Bv id h;exact⟨c,by simp[b],a⟩
   obtain⟨c,b,a⟩:=Bv id h;exact⟨c,by simp[b],a⟩
  obtain⟨c,b,a⟩:=Bv id h;exact⟨c,by simp[b],a⟩
def Jq {a:ac9} {c:Nat} {g B:Operand->ao}:∀{l:List Operand},(∀x∈l,g x=B x)->kC a c g l=kC a c B l
 |[],_=>rfl
 |x::l,b=>by simp only[kC,b x ab,Jq (l:=l) (λe d=>b e (by simp[d]))]
def Jp {h A:List (Nat×aH)} (c:∀id∈f,au h id=au A id) (a:ao):fg h f a=fg A f a:=by
 cases a with
 |ref id b=>
  cases b with
  |nil=>
   simp only[fg];cases d:c9 id f with
   |false=>rfl
   |true=>rw[c id (ej.1 d)]
  |cons e b=>rfl
 |_=>rfl
def Rv {h A:List (Nat×aH)} (e:∀id∈f,au h id=au A id) (a:ao):g4 h f a=g4 A f a:=by
 by_cases d:∃b,a=.dv b
 ·obtain⟨b,rfl⟩:=d;simp only[g4,hZ (λa _=>Jp e a)]
 rw[Bu (λb c=>d ⟨b,c⟩),Bu (λb c=>d ⟨b,c⟩),Jp e a]
def Jo {h:List (Nat×aH)}:∀id∈(fg h f d).ids,id∈d.ids:=by
 intro id a;rcases k5 h f d with⟨e,c,rfl,_,_,b⟩|⟨b,_⟩|⟨b,_⟩
 ·rw[b] at a;have:(pp c).ids=[]:=(by unfold pp;split<;>rfl);rw[this] at a;cases a
 ·rw[b] at a;cases a
 rw[b] at a;exact a
def JI {c:ao->ao} (d:∀a,∀id∈(c a).ids,id∈a.ids):∀{b:List ao} {id:Nat},id∈ao.mu (b.map c)->id∈ao.mu b
 |[],_,h=>h
 |a::b,id,h=>by simp only[eo,ao.mu,dX] at h|-;exact h.imp (d a id) (JI d)
def Ru {h:List (Nat×aH)}:∀id∈(g4 h f d).ids,id∈d.ids:=by
 by_cases b:∃a,d=.dv a
 ·obtain⟨a,rfl⟩:=b;exactλid e=>JI (λd=>Jo) e
 rw[Bu (λa c=>b ⟨a,c⟩)];exact Jo
def Qt {l:fo} {g B:Operand->ao} {h A:List (Nat×aH)} {c:Oper} (b:iw l g h c some=some p) (q:∀a∈c.op.operands,g a=B a) (o:∀a∈c.op.operands,eu h A (g a)) (t:∀d,c.dst=some d->au h d=au A d) (v:∀m∈p.put,au h m.1=au A m.1):iw l B A c some=some p:=by
 unfold iw at b|-;rw[<-Jq (λa j=>q a (NF a j))];split
 ·rename_i f;rw[f] at b;rw[<-IQ q];exact IR b o t v
 rename_i C;split at b
 ·rename_i f;exact(C f).elim
 have f:∀id∈kC l.na (ss c) g (pR c.op),au h id=au A id:=λid e=>(by obtain⟨a,j,p⟩:=Bv id e;exact o a (NF a j) id (by rw[p];simp[ao.ids]));generalize kC l.na (ss c) g (pR c.op)=i at b f|-;have y:lG A i=lG h i:=(by unfold lG;rw[lZ,eJ,eJ];exact⟨λr id e=>by rw[f id e];exact r id e,λr id e=>by rw[<-f id e];exact r id e⟩);rw[y];cases s:lG h i with
 |false=>rw[s] at b;cases b
 |true=>
 rw[s] at b;simp only[cond_true] at b|-;rw[xa] at b|-;obtain⟨n,w,k⟩:=bZ.1 b;have D:n.put=p.put:=by
  cases u:(n.keep.all λF=>!c9 F.1 i) with
  |false=>rw[u] at k;cases k
  |true=>rw[u] at k;cases k;rfl
 have x:al l (λa=>g4 A i (B a)) (del i A) c some=some n:=by
  rw[<-IQ (g:=λa=>g4 h i (g a)) (λa j=>by simp only[q a j,Rv f])];refine IR w (λa j id e=>?_) (λd z=>?_) (λm E=>?_)
  ·rw[jT,jT,o a j id (Ru id e)]
  ·rw[jT,jT,t d z]
  rw[jT,jT,v m (by rw[<-D];exact E)]
 rw[x];exact k
end
section
def ou (D:Array Oper) (a:Nat):ac7:=match D[a]? with
 |some b=>(b.after.toList.filter (Region.binds .any)).map (·.on)
 |none=>[]
def vt (a:Nat):bm:=⟨some (a,.bQ undef),[],[],[]⟩
def Bg (ic:fo) {d:Type} (G C:ac7) (a:aO) (c:Oper) (e:bm->Option d):Option d:=
 iw ic (aR a.g) a.h c λb=>bif oe G C (aR a.g) c b then e b else none
def gQ (ic:fo) (D:Array Oper) (G C:Nat->ac7) (e:Nat) (b:aO) (d:bm):Prop:=
 ∃a,D[e]?=some a/\((i5 D b a true/\iw ic (aR b.g) b.h a some=some d/\oe (G e) (C e) (aR b.g) a d=true)\/(i5 D b a false/\∃c,a.dst=some c/\fC ic.n ic.pin c=true/\d=vt c))
def qJ (ic:fo) {k:Type} (D:Array Oper) (G C:Nat->ac7):ac7->aO->(aO->Option k)->Option k
 |[],a,b=>b a
 |i::e,a,b=>match D[i]? with
  |none=>none
  |some f=>match f.guard with
   |none=>Bg ic (G i) (C i) a f λj=>qJ ic D G C e (j.app a) b
   |some (
    l,rl)=>match(D[l]?).bind (·.dst),f.dst with
    |some d,some c=>match gt a.g d with
     |.val .bool m=>bif fC ic.n ic.pin c then
      (match m==rl with
      |true=>Bg ic (G i) (C i) ⟨(d,.val .bool rl)::a.g,a.h⟩ f λj=>qJ ic D G C e (j.app ⟨(d,.val .bool rl)::a.g,a.h⟩) b
      |false=>qJ ic D G C e ⟨(c,.bQ undef)::(d,.val .bool (!rl))::a.g,a.h⟩ b) else none
     |.bQ (.tuple _)=>bif fC ic.n ic.pin c then qJ ic D G C e ⟨(c,.bQ undef)::a.g,a.h⟩ b else none
     |_=>none
    |_,_=>none
def l9 (ic:fo) (D:Array Oper) (G C:Nat->ac7):ac7->aO->aO->Prop
 |[],a,b=>iM a b
 |i::d,a,b=>∃c,gQ ic D G C i a c/\l9 ic D G C d (c.app a) b
def O5 {tt:List (TypeId×ai)} {id:Nat} (a:mf tt k e b c (.ref id (T::j)) d some=some p):p.keep=[(id,T::j),(id,[])]/\p.S=[id]/\au p.put id=au e id:=by
 have o:∀{n:ao} {l:aH},au e id=some l->au e b=none->some (bm.mk (some (b,n)) [id] [(id,T::j),(id,[])] [(b,⟨.c6,()⟩),(id,l)])=some p->p.keep=[(id,T::j),(id,[])]/\p.S=[id]/\au p.put id=au e id:=(by intro n l g h q;cases q;have r:¬b=id:=λp=>(by rw[p,g] at h;cases h);exact⟨rfl,rfl,by rw[bU,ag r,bU,aj rfl,g]⟩);unfold mf at a;split at a
 ·rename_i v w u x s;obtain⟨al,_,_⟩:=FX s;cases al;unfold v5 at a;split at a
  case h_2=>cases a
  rename_i m l _ g h;split at a
  case h_2=>cases a
  rename_i f t;split at a
  case h_2=>cases a
  cases i:(a1 m f&&(Nat.ble f.size 1300&&(f.il&&!(Nat.beq u id)))) with
  |false=>rw[i] at a;cases a
  |true=>
  rw[i] at a;obtain⟨_,_,a⟩:=bZ.1 a;obtain⟨_,_,a⟩:=bZ.1 a;exact o g h a
 unfold mY at a;split at a
 ·cases a
 rename_i m _;simp only at a;split at a
 case h_2=>cases a
 rename_i l g h;split at a
 case h_2=>cases a
 rename_i f t;cases i:(a1 m f&&Nat.ble f.size 1300&&f.il) with
 |false=>rw[i] at a;cases a
 |true=>
 rw[i] at a;obtain⟨_,_,a⟩:=bZ.1 a;obtain⟨_,_,a⟩:=bZ.1 a;obtain⟨_,_,a⟩:=bZ.1 a;exact o g h a
def Ds {id:Nat} (a:qc F h=some (id,j)):∃e f d g c b,h.op=.call {callee:=.builtin .append,args:=e,argTypes:=f}/\e.toList=[d,g]/\j=c::b/\F d=.ref id (c::b):=by
 unfold qc at a;split at a
 case h_2=>cases a
 rename_i e f k;split at a
 case h_2=>cases a
 rename_i d g l;split at a
 case h_2=>cases a
 rename_i m c b i;cases a;exact⟨e,f,d,g,c,b,k,l,rfl,i⟩
def IP {ic:fo} {g:Operand->ao} {id:Nat} {i:List aW} (d:h.op=.call {callee:=.builtin .append,args:=R,argTypes:=V}) (t:R.toList=[m,w]) (s:j=T::i) (r:g m=.ref id (T::i)) (a:al ic g e h some=some p):p.keep=[(id,j),(id,[])]/\p.S=[id]/\au p.put id=au e id:=by
 unfold al at a;cases c:h.dst with
 |none=>rw[c] at a;simp only[d] at a;cases a
 |some o=>
  rw[c] at a;simp only at a;cases f:fC ic.n ic.pin o with
  |false=>rw[f] at a;cases a
  |true=>
  rw[f] at a;simp only[cond_true,d,t] at a;split at a
  case h_2=>cases a
  rename_i v x k l q u;cases q;cases b:Nat.beq k l with
  |false=>rw[b] at a;cases a
  |true=>
  rw[b,r] at a;rw[s];exact O5 a
def IT {ic:fo} {id:Nat} (G:qc F h=some (id,j)) (b:iw ic F e h some=some p):p.keep=[(id,j),(id,[])]/\au p.put id=au e id:=by
 obtain⟨P,N,r,Q,l,k,i,q,w,m⟩:=Ds G;unfold iw at b;split at b
 ·obtain⟨a,_,E⟩:=IP i q w m b;exact⟨a,E⟩
 generalize kC ic.na (ss h) F (pR h.op)=c at b;cases u:lG e c with
 |false=>rw[u] at b;cases b
 |true=>
 rw[u] at b;simp only[cond_true] at b;rw[xa] at b;obtain⟨s,a,f⟩:=bZ.1 b;cases o:s.keep.all (λy=>!c9 y.1 c) with
 |false=>rw[o] at f;cases f
 |true=>
 rw[o] at f;cases f;have d:g4 e c (.ref id (l::k))=.ref id (l::k)\/g4 e c (.ref id (l::k))=.dead:=by
  rw[Bu (by intro L e;cases e)];rcases k5 e c (.ref id (l::k)) with⟨y,M,p,_⟩|⟨p,_⟩|⟨p,_⟩
  ·cases p
  ·exact .inr p
  exact .inl p
 rcases d with d|d
 ·obtain⟨z,_,J⟩:=IP (g:=λr=>g4 e c (F r)) i q w (by show g4 e c (F r)=_;rw[m];exact d) a;refine⟨z,?_⟩;show au s.put id=_;rw[J,jT];have I:id∉c:=λH=>by
   have:=eJ.1 o (id,j) (by rw[z];simp);rw[ej.2 H] at this;cases this
  rw[ag I]
 exfalso;unfold al at a;cases v:h.dst with
 |none=>rw[v] at a;simp only[i] at a;cases a
 |some C=>
  rw[v] at a;simp only at a;cases x:fC ic.n ic.pin C with
  |false=>rw[x] at a;cases a
  |true=>
  rw[x] at a;simp only[cond_true,i,q] at a;split at a
  case h_2=>cases a
  rename_i O R A B D K;cases D;cases t:Nat.beq A B with
  |false=>rw[t] at a;cases a
  |true=>
  rw[t] at a;simp only[cond_true,m,d,mf,sU,mY] at a;split at a<;>cases a
section
variable {ic:fo} {D:Array Oper} {G C:Nat->ac7}
def Bf.ok {e:Option (Nat×ao)} {a:ac3} (c:Bf e a=true):∀d b,e=some (d,b)->a=some d:=by
 intro d b g;subst g;cases a with
 |none=>cases c
 |some f=>rw[ep (show Nat.beq d f=true from c)]
def IV {d:Oper} {j:bm->Option a} {l:a} (e:Bg ic f A i d j=some l):∃b,iw ic (aR i.g) i.h d some=some b/\oe f A (aR i.g) d b=true/\j b=some l:=by
 unfold Bg at e;rw[Qr] at e;obtain⟨b,m,c⟩:=bZ.1 e;refine⟨b,m,?_⟩;cases k:oe f A (aR i.g) d b with
 |false=>rw[k] at c;cases c
 |true=>rw[k] at c;exact⟨rfl,c⟩
def kR (b:ac7) (a:ao):Prop:=(∀id∈a.ids,id∈b)\/(∃id,a=.ref id []/\id+500000∈b)\/∃id c,o1 a=some (id,c)/\id<500000/\id+1000000*c∈b/\∀d∈a.ids,d=id\/d∈b
def qM.ok (a:qM f d=true):∃id b,o1 d=some (id,b)/\id<500000/\id+1000000*b∈f/\∀c∈d.ids,c=id\/c∈f:=by
 unfold qM at a;split at a
 case h_2=>cases a
 rename_i id b e;simp only[bc] at a;refine⟨id,b,e,eM a.1,ej.1 a.2.1,λc g=>?_⟩;have:=eJ.1 a.2.2 c g;rw[fX] at this;exact this.imp ep ej.1
def nA.ok (a:nA f d=true):∃id,d=.ref id []/\id+500000∈f:=by
 unfold nA at a;split at a
 ·exact⟨_,rfl,ej.1 a⟩
 cases a
def kR.ok {c:ac7} {b:ao} (a:(nC b.ids c||nA c b)=true):kR c b:=by
 rcases fX _ _▸a with a|a
 ·exact .inl (nC.ok a)
 exact .inr (.inl (nA.ok a))
def kR.Uw (a:(nC d.ids f||(nA f d||qM f d))=true):kR f d:=by
 simp only[fX] at a;rcases a with a|a|a
 ·exact .inl (nC.ok a)
 ·exact .inr (.inl (nA.ok a))
 exact .inr (.inr (qM.ok a))
def Jb (a:uI j=some b):1<=b:=by
 unfold uI at a;split at a
 ·cases a;exact a6 _
 split at a<;>first|(cases a;done)|(cases a;omega)
def Io {id:Nat} (a:o1 d=some (id,b)):1<=b:=by
 unfold o1 at a;split at a
 ·split at a
  ·rename_i c;cases a;exact Jb c
  cases a
 ·split at a
  ·rename_i c;cases a;exact Jb c
  cases a
 ·split at a
  ·cases a;omega
  cases a
 cases a
def He (e:Op) (c:ac7) (b:ao):Prop:=
 (∃f d g a,e=.extract f d/\b=.dv g/\g[d]?=some a/\q2 a=true/\kR c a)\/
 ((∀f d,e≠.extract f d)/\zb b=true/\kR c b/\((∀id∈b.ids,id∈c\/∃a,1<=a/\id<500000/\id+1000000*a∈c)\/uP e=true))
def mD.ok {l:Op} {h:ac7} {g:ao} (a:mD l h g=true):He l h g:=by
 unfold mD at a;split at a
 ·rename_i f b;split at a
  case h_2=>cases a
  rename_i q;split at a
  case h_2=>cases a
  rename_i d o;rw[bc] at a;exact .inl ⟨f,b,q,d,rfl,rfl,o,a.1,.ok a.2⟩
 rename_i p;simp only[bc,fX] at a;refine .inr ⟨λf b c=>p f b c,a.1,?_⟩;rcases a.2 with a|⟨a,m⟩|a
 ·exact⟨.inl (nC.ok a),.inl λb e=>.inl (nC.ok a b e)⟩
 ·exact⟨.inr (.inl (nA.ok m)),.inr a⟩
 obtain⟨id,d,i,n,j,k⟩:=qM.ok a;refine⟨.inr (.inr ⟨id,d,i,n,j,k⟩),.inl λb e=>?_⟩;rcases k b e with c|c
 ·exact .inr ⟨d,Io i,U,by rw[c];exact j⟩
 exact .inl c
def oe.ok {j b:ac7} {k:Operand->ao} {g:Oper} {c:bm} (a:oe j b k g c=true):(∀d f,c.d=some (d,f)->g.dst=some d)/\(∀l∈g.op.operands,He g.op j (k l))/\(∀id∈c.S,id<500000/\(id∈b/\(id+500000∈b\/jR c.keep (.ref id [])=true)\/id+1500000∈b))/\(∀h∈c.put,h.1<500000/\(h.1∈b\/h.1+1500000∈b))/\(∀d f,c.d=some (d,f)->kR j f)/\(∀e∈b,1000000<=e->∃id i,qc k g=some (id,i)/\e %1000000=id+500000/\id<500000/\Cf i (e/1000000)=true):=by
 unfold oe at a;simp only[bc] at a;obtain⟨⟨⟨⟨n,o⟩,p⟩,q⟩,m,r⟩:=a;refine⟨Bf.ok n,λl x=>?_,λid u=>?_,λh w=>?_,λd f t=>?_,λe v y=>?_⟩
 ·exact mD.ok (eJ.1 o l (by simpa using x))
 ·have:=eJ.1 p id u;simp only[bc,fX] at this;exact⟨eM this.1,this.2.imp (λa=>⟨ej.1 a.1,a.2.imp ej.1 (λa=>a)⟩) ej.1⟩
 ·have:=eJ.1 q h w;simp only[bc,fX] at this;exact⟨eM this.1,this.2.imp ej.1 ej.1⟩
 ·rw[t] at m;exact kR.Uw m
 have:=eJ.1 r e v;rw[fX] at this;rcases this with a|a
 ·have:e<1000000:=eM a;omega
 split at a
 case h_2=>cases a
 rename_i id i s;simp only[bc] at a;exact⟨id,i,s,ep a.1,eM a.2.1,a.2.2⟩
def oU (d:ac7) (a c:ao):Prop:=(zb a=true->kR d a->c=a)/\∀f,a=.dv f->∃g,c=.dv g/\∀(e:Nat) (b:ao),f[e]?=some b->q2 b=true->kR d b->g[e]?=some b
def oU.refl (a:t=d):oU f d t:=⟨λ_ _=>a,λc b=>⟨c,by rw[a,b],λ_ _ a _ _=>a⟩⟩
def oU.mD {d:ac7} {j:Op} {e f:ao} (g:oU d e f) (c:mD j d e=true):ia.mD j d f=true:=by
 rcases mD.ok c with⟨r,o,p,k,h,a,b,i,m⟩|⟨h,a,b,i⟩
 ·obtain⟨q,l,n⟩:=g.2 p a;subst h a l;simp only[ia.mD,b,n o k b i m] at c|-;exact c
 rw[g.1 a b];exact c
def Qs {ic:fo} {g:List ao} (c:h.op=.extract m b) (a:iw ic F e h some=some p) (i:F m=.dv L) (j:Y m=.dv g) (k:L[b]?=some d) (l:g[b]?=some d):iw ic Y P h some=some p:=by
 unfold iw at a|-;have n:∀F:Operand->ao,kC ic.na (ss h) F (pR h.op)=[]:=λF=>(by rw[c];rfl);rw[n] at a|-;simp only at a|-;unfold al at a|-;cases f:h.dst with
 |none=>rw[f] at a;simp only[c] at a;cases a
 |some o=>
  rw[f] at a;simp only[c,iW,e6,Bm,i,j,k,l] at a|-;exact a
def Qu {ic:fo} (d:uP h.op=true) (a:iw ic F e h some=some p) (i:∀b∈h.op.operands,F b=Y b):iw ic Y P h some=some p:=by
 unfold uP at d;split at d
 ·rename_i b c;have j:F b=Y b:=i b (by rw[c];simp[Op.operands]);unfold iw at a|-;have g:∀F:Operand->ao,kC ic.na (ss h) F (pR h.op)=[]:=λF=>(by rw[c];rfl);rw[g] at a|-;simp only at a|-;unfold al at a|-;cases f:h.dst with
  |none=>rw[f] at a;simp only[c] at a;cases a
  |some k=>
   rw[f] at a;simp only[c,iW,e6,<-j] at a|-;exact a
 cases d
def SU (a:.tmp b∈h.op.operands):b∈h.looksAt D:=
 mS _ (List.mem_filterMap.2 ⟨.tmp b,by simpa using a,rfl⟩)
def SV (a:h.guard=some (l,I)) (c:(D[l]?).bind (·.dst)=some b):b∈h.looksAt D:=
 kU _ (by rw[a];simp only[c];simp)
def NM (l:∀j∈h.looksAt D,oU f (gt i.g j) (gt X.g j)) (a:i5 D i h I):i5 D X h I:=by
 unfold i5 at*;cases c:h.guard with
 |none=>rw[c] at a;exact a
 |some n=>
  obtain⟨m,p⟩:=n;rw[c] at a;simp only at a|-;cases d:(D[m]?).bind (·.dst) with
  |none=>rw[d] at a;exact a
  |some k=>
   rw[d] at a;simp only at a|-;have e:=l k (SV c d);split at a
   ·rename_i q b;rw[e.1 (by rw[b];rfl) (by rw[b];exact .inl (by simp[ao.ids])),b];exact a
   ·rename_i o b;rw[e.1 (by rw[b];rfl) (by rw[b];exact .inl (by simp[ao.ids])),b];exact a
   exact a.elim
def gQ.congr (d:gQ ic D G C b i p) (r:∀c,D[b]?=some c->∀z∈c.looksAt D,oU (G b) (gt i.g z) (gt X.g z)) (s:∀c,D[b]?=some c->∀id,id∈G b\/id∈C b\/c.dst=some id->au i.h id=au X.h id) (an:∀id j,1<=j->id<500000->id+1000000*j∈G b->au i.h id=au X.h id):gQ ic D G C b X p:=by
 obtain⟨c,F,d⟩:=d;have r:=r c F;have s:=s c F;refine⟨c,F,d.imp (λ⟨q,l,f⟩=>⟨NM r q,?_⟩) (λ⟨q,l⟩=>⟨NM r q,l⟩)⟩;obtain⟨ds,f2,d0,f4,f5,V⟩:=oe.ok f;have x:∀a∈c.op.operands,oU (G b) (aR i.g a) (aR X.g a):=by
  intro a e;cases a with
  |tmp z=>exact r z (SU e)
  |const ce=>exact .refl (by cases ce<;>rfl)
  |func dl=>exact .refl rfl
  |global M=>exact .refl rfl
 constructor
 ·by_cases N:∃a H,c.op=.extract a H
  ·obtain⟨a,H,w⟩:=N;have e:a∈c.op.operands:=(by rw[w];simp[Op.operands]);rcases f2 a e with⟨L,I,J,j,k,u,v,W,Y⟩|⟨k,_⟩
   ·rw[w] at k;cases k;obtain⟨d1,aw,a4⟩:=(x a e).2 J u;exact Qs w l u aw v (a4 _ j v W Y)
   exact absurd w (k a H)
  have E:∀a∈c.op.operands,zb (aR i.g a)=true/\kR (G b) (aR i.g a)/\((∀id∈(aR i.g a).ids,id∈G b\/∃j,1<=j/\id<500000/\id+1000000*j∈G b)\/uP c.op=true):=λa e=>by
   rcases f2 a e with⟨L,I,J,j,k,_⟩|⟨_,M⟩
   ·exact absurd ⟨L,I,k⟩ N
   exact M
  have m:∀a∈c.op.operands,aR i.g a=aR X.g a:=λa e=>((x a e).1 (E a e).1 (E a e).2.1).symm;by_cases O:uP c.op=true
  ·exact Qu O l m
  have Q:∀a∈c.op.operands,∀id∈(aR i.g a).ids,au i.h id=au X.h id:=λa e id am=>by
   rcases((E a e).2.2.resolve_right O) id am with d|⟨j,q,l,f⟩
   ·exact s id (.inl d)
   exact an id j q l f
  refine Qt l m Q (λT ad=>s T (.inr (.inr ad))) (λK P=>?_);rcases(f4 K P).2 with d|d
  ·exact s _ (.inr (.inl d))
  obtain⟨id,n,R,cs,cv,_⟩:=V _ d U;have:=(f4 K P).1;obtain⟨ci,bs,a,co,bl,aw,o,t,_,A⟩:=Ds R;have y:a∈c.op.operands:=(by rw[o];exact qW (by rw[t];simp));exact Q a y K.1 (by rw[A];simp only[ao.ids,ed];omega)
 unfold oe at*;have:(c.op.operands.toList.all λa=>mD c.op (G b) (aR X.g a))=true:=(by simp only[bc] at f;rw[eJ];intro a e;exact(x a (by simpa using e)).mD (eJ.1 f.1.1.1.2 a e));have Z:∀id n,qc (aR i.g) c=some (id,n)->qc (aR X.g) c=some (id,n):=λid n m=>by
  obtain⟨ci,bs,a,co,bl,aw,o,t,S,A⟩:=Ds m;have y:a∈c.op.operands:=(by rw[o];exact qW (by rw[t];simp));have a0:aR X.g a=aR i.g a:=by
   rcases f2 a y with⟨L,I,J,j,k,_⟩|⟨_,u,v,_⟩
   ·rw[o] at k;cases k
   exact(x a y).1 u v
  unfold qc;rw[o];simp only[t,a0,A,S]
 have av:FZ (C b) (aR X.g) c=true:=by
  simp only[bc] at f;have B:=f.2.2;unfold FZ at B|-;rw[eJ] at B|-;intro a3 ap;have:=B a3 ap;rw[fX] at this|-;refine this.imp (λd=>d) (λd=>?_);split at d
  case h_2=>cases d
  rename_i id n m;rw[Z id n m];exact d
 simp only[bc] at f|-;exact⟨⟨⟨⟨f.1.1.1.1,this⟩,f.1.1.2⟩,f.1.2⟩,f.2.1,av⟩
def gQ.Bh (g:gQ ic D G C b i p) {v:Oper} (K:D[b]?=some v):(∀f c,p.d=some (f,c)->v.dst=some f)/\(∀id∈p.S,id<500000/\(id∈C b/\(id+500000∈C b\/jR p.keep (.ref id [])=true)\/id+1500000∈C b))/\(∀n∈p.put,n.1<500000/\(n.1∈C b\/n.1+1500000∈C b))/\(∀f c,p.d=some (f,c)->kR (G b) c)/\(∀id,id<500000->id+1500000∈C b->au (p.app i).h id=au i.h id)/\(∀id a e,id∈p.S->id<500000->id+1000000*a+500000∈C b->1<=a->o1 e=some (id,a)->(∀u∈e.ids,u=id\/u∉p.S)->hM p.S p.keep e=true):=by
 obtain⟨N,t,g⟩:=g;rw[K] at t;cases t;rcases g with⟨_,r,g⟩|⟨_,f,H,_,rfl⟩
 ·obtain⟨z,f2,A,f4,f5,q⟩:=oe.ok g;refine⟨z,A,f4,f5,λid I m=>?_,λid a e s I m M F J=>?_⟩
  ·obtain⟨j,L,k,w,x,_⟩:=q _ m U;obtain rfl:j=id:=U;obtain⟨_,E⟩:=IT k r;rw[bm.qd,E];cases au i.h j with
   |none=>simp
   |some O=>rfl
  obtain⟨j,L,k,w,x,o⟩:=q _ m U;obtain rfl:j=id:=U;obtain⟨B,_⟩:=IT k r;rw[B];refine Wm ?_ F J;have:(j+1000000*a+500000)/1000000=a:=U;rw[this] at o;exact o
 refine⟨λy c l=>?_,by simp[vt],by simp[vt],λy c l=>?_,λid _ _=>rfl,λid a e s=>by cases s⟩
 ·cases l;exact H
 cases l;exact .inl (by simp[ao.ids])
structure vS (f S:ac7) (keep:List (Nat×List aW)):Prop where
 a:∀id∈S,id∉f
 b:∀id∈S,id+500000∈f->jR keep (.ref id [])=true
 c:∀id∈S,∀c v,1<=c->id<500000->id+1000000*c∈f->o1 v=some (id,c)->(∀j∈v.ids,j=id\/j∉S)->hM S keep v=true
def xz (b:ac7) (c:List (Nat×List aW)) (a:ao):dr b c a=.dead\/dr b c a=a:=by unfold dr;cases(a.dK b&&!(hM b c a))<;>simp
def EX (b:q2 (dr f g d)=true):dr f g d=d:=by
 rcases xz f g d with a|a
 ·rw[a] at b;cases b
 exact a
def EW (a:∀id∈d.ids,id∉f):dr f g d=d:=by refine CR ?_ g;unfold ao.dK;rw[tw];intro id b c;exact a id b (ej.1 c)
def R9 (a:∀id∈d.ids,id∉f):ef f g d=d:=by refine Y2 ?_ g;unfold ao.dK;rw[tw];intro id b c;exact a id b (ej.1 c)
def JX (e:kR A d) (i:vS A f g):dr f g d=d:=by
 rcases e with e|⟨id,rfl,e⟩|⟨id,q,n,r,s,o⟩
 ·exact EW λid t h=>i.a id h (e id t)
 ·by_cases h:id∈f
  ·unfold dr;rw[show hM f g (.ref id [])=jR g (.ref id []) from rfl,i.b id h e];simp
  exact EW λm j k=>by simp only[ao.ids,ed] at j;exact h (j▸k)
 by_cases h:id∈f
 ·unfold dr;rw[i.c id h q d (Io n) r s n (λp u=>(o p u).imp (λe=>e) (λe h=>i.a p h e))];simp
 exact EW λm j k=>by
  rcases o m j with l|l
  ·exact h (l▸k)
  exact i.a m k l
def xy (b:kR A d) (e:vS A f g):ef f g d=d:=by
 cases d with
 |dv k=>
  rcases b with b|⟨id,c,_⟩|⟨id,j,c,_⟩
  ·exact R9 λid h i=>e.a id i (b id h)
  ·cases c
  cases c
 |_=>exact JX b e
def JW (a:ac7) (b:List (Nat×List aW)) (d:ac7) (e:List (Nat×List aW)) (c:ao):dr a b (dr d e c)=dr d e (dr a b c):=by have h:∀a b,dr a b .dead=.dead:=λa b=>(by simp[dr,ao.dK,ao.ids]);rcases xz a b c with f|f<;>rcases xz d e c with g|g<;>simp only[f,g,h]
def xx (b:∀a,d≠.dv a):ef f g d=dr f g d:=by
 cases d with
 |dv a=>exact absurd rfl (b a)
 |_=>rfl
def BJ (c:ac7) (d:List (Nat×List aW)) (f:ac7) (i:List (Nat×List aW)) (b:ao):ef c d (ef f i b)=ef f i (ef c d b):=by
 by_cases k:∃a,b=.dv a
 ·obtain⟨a,rfl⟩:=k;simp only[ef,p4];exact congrArg _ (hZ λb _=>JW c d f i b)
 have h:∀a,b≠.dv a:=λa e=>k ⟨a,e⟩;have j:∀c d,∀a,dr c d b≠.dv a:=λc d a e=>by
  rcases xz c d b with g|g
  ·rw[g] at e;cases e
  rw[g] at e;exact h a e
 rw[xx h,xx h,xx (j _ _),xx (j _ _),JW]
def Sb (n e:ac7) (f:List (Nat×List aW)) (c:ao):oU n (ef e f c) c:=by
 by_cases l:∃a,c=.dv a
 ·obtain⟨a,rfl⟩:=l;refine⟨λb _=>?_,λt j=>⟨a,rfl,λs q k g _=>?_⟩⟩
  ·simp only[ef] at b|-;have b:∀i∈a.map (dr e f),q2 i=true:=eJ.1 b;congr 1;rw[hZ (λi p=>EX (b _ (bR.2 ⟨i,p,rfl⟩))),List.map_id']
  simp only[ef,ao.dv.injEq] at j;subst j;rw[eT] at k;obtain⟨r,o,rfl⟩:=dY.1 k;rw[EX g,o]
 have g:∀a,c≠.dv a:=λa d=>l ⟨a,d⟩;rw[xx g];have h:∀a,dr e f c≠.dv a:=λa d=>by
  rcases xz e f c with b|b
  ·rw[b] at d;cases d
  rw[b] at d;exact g a d
 refine⟨λb _=>?_,λa d=>absurd d (h a)⟩;have:q2 (dr e f c)=true:=by
  generalize dr e f c=m at b h;cases m with
  |dv a=>exact absurd rfl (h a)
  |_=>exact b
 exact(EX this).symm
def Sc (a:ao) (b:vS A f g):oU A a (ef f g a):=by refine⟨λ_ d=>xy d b,λk c=>?_⟩;subst c;refine⟨_,rfl,λj i e _ h=>?_⟩;rw[eT,e,fd,JX h b]
def HI (e:∀a c,p.d=some (a,c)->a≠b):gt (p.app i).g b=ef p.S p.keep (gt i.g b):=by
 rw[bm.rI];cases f:p.d with
 |none=>rfl
 |some h=>obtain⟨a,c⟩:=h;simp only;rw[ag (e a c f)]
def Sx {c:List (Nat×a)} {id:Nat} (d:∀b∈c,b.1≠id):au c id=none:=by
 induction c with
 |nil=>rfl
 |cons b c f=>
  obtain⟨g,h⟩:=b;rw[bU,ag (d (g,h) ab),f (λb e=>d b (by simp[e]))]
def HJ {id:Nat} (a:id∉p.S) (b:∀c∈p.put,c.1≠id):au (p.app i).h id=au i.h id:=by rw[bm.qd,ag a,Sx b];rfl
def qy (b c:ac7):Bool:=b.all λa=>!(c9 a c)
def qy.ok (b:qy f A=true):∀a∈f,a∉A:=λa c d=>by have:=eJ.1 b a c;rw[ej.2 d] at this;cases this
def dl (b:Oper):ac7:=match b.dst with
 |some a=>[a]
 |none=>[]
def u1 (a:h.dst=some b):b∈dl h:=by unfold dl;rw[a];simp
def qz (b c:ac7):Bool:=b.all λa=>Nat.ble 1000000 a||!(c9 a c)
def qz.ok (a:qz f A=true):∀b∈f,b<1000000->b∉A:=λb c e d=>by
 have:=eJ.1 a b c;rw[ej.2 d,fX] at this;rcases this with a|a
 ·have:=eM a;omega
 cases a
def pq (e d f b:ac7):Bool:=(b.all λa=>Nat.blt a 1000000||(!(c9 (a %1000000-500000) e)&&(!(c9 (a %1000000-500000) d)&&!(c9 (a %1000000-500000) f))))&&d.all λc=>Nat.blt c 1000000||(!(c9 (c %1000000) b)&&(!(c9 (c %1000000+1500000) b)||c9 (c+500000) b))
def pq.ok {d i:ac7} (a:pq d A i f=true):(∀id,id<500000->id+1500000∈f->id∉d/\id∉A/\id∉i)/\∀id b,1<=b->id<500000->id+1000000*b∈A->id∉f/\(id+1500000∈f->id+1000000*b+500000∈f):=by
 unfold pq at a;rw[bc] at a;have e:∀{g:Nat} {h:ac7},(!(c9 g h))=true->g∉h:=λ{g h} a c=>(by rw[ej.2 c] at a;cases a);constructor
 ·intro id k c;have:=eJ.1 a.1 _ c;rw[fX] at this;rcases this with a|a
  ·have:id+1500000<1000000:=eM a;omega
  rw[(U:(id+1500000) %1000000-500000=id)] at a;simp only[bc] at a;exact⟨e a.1,e a.2.1,e a.2.2⟩
 intro id b l k c;have:=eJ.1 a.2 _ c;rw[fX] at this;rcases this with a|a
 ·have:id+1000000*b<1000000:=eM a;omega
 rw[(U:(id+1000000*b) %1000000=id)] at a;simp only[bc,fX] at a;refine⟨e a.1,λj=>?_⟩;rcases a.2 with a|a
 ·exact absurd j (e a)
 exact ej.1 a
def rR (D:Array Oper) (G C:Nat->ac7) (a b:Nat):Bool:=
 match D[a]?,D[b]? with
 |some d,some c=>d.apart D c&&qz (C b) (dl d++(G a++C a))&&qz (C a) (dl c++G b)&&(pq (dl d) (G a) (C a) (C b)&&pq (dl c) (G b) (C b) (C a))
 |_,_=>false
def gQ.uV (a:gQ ic D G C b i p) {id:Nat} (m:500000<=id):au (p.app i).h id=au i.h id:=by obtain⟨k,c,j⟩:=a;have a:gQ ic D G C b i p:=⟨k,c,j⟩;obtain⟨_,d,e,_⟩:=a.Bh c;exact HJ (λf=>by have:=(d id f).1;omega) (λl g p=>by have:=(e l g).1;omega)
def gQ.qQ (d:gQ ic D G C b i p) {id:Nat} (e:id∉C b):au (p.app i).h id=au i.h id:=by
 obtain⟨o,f,n⟩:=d;have d:gQ ic D G C b i p:=⟨o,f,n⟩;obtain⟨_,g,j,_,k,_⟩:=d.Bh f;by_cases c:id<500000/\id+1500000∈C b
 ·exact k id c.1 c.2
 refine HJ (λl=>?_) (λq m p=>?_)
 ·obtain⟨aw,a⟩:=g id l;rcases a with a|a
  ·exact e a.1
  exact c ⟨aw,a⟩
 subst p;obtain⟨aw,a⟩:=j q m;rcases a with a|a
 ·exact e a
 exact c ⟨aw,a⟩
def gQ.swap {f:bm} (m:rR D G C l b=true) (q:gQ ic D G C l i f) (B:gQ ic D G C b (f.app i) p):gQ ic D G C b i p/\gQ ic D G C l (p.app i) f/\iM (p.app (f.app i)) (f.app (p.app i)):=by
 unfold rR at m;split at m
 case h_2=>cases m
 rename_i bs bl R Q;simp only[bc] at m;obtain⟨⟨⟨d3,M⟩,N⟩,d5,d6⟩:=m;have M:=qz.ok M;have N:=qz.ok N;obtain⟨d1,ap⟩:=pq.ok d5;obtain⟨d2,av⟩:=pq.ok d6;obtain⟨dl,ds,d0⟩:=Oper.apart_spec d3;obtain⟨co,an,eq,cs,ex,cv⟩:=q.Bh R;obtain⟨i1,V,el,a3,em,a4⟩:=B.Bh Q;have ek:∀o∈bl.looksAt D,gt (f.app i).g o=ef f.S f.keep (gt i.g o):=λo x=>HI λe v A z=>dl e (co e v A) (z▸x);have d9:∀o∈bs.looksAt D,gt (p.app i).g o=ef p.S p.keep (gt i.g o):=λo x=>HI λe v A z=>d0 e (i1 e v A) (z▸x);have P:∀e J s K,p.d=some (e,J)->f.d=some (s,K)->e≠s:=λe J s K A d4 z=>ds s (co s K d4) (z▸i1 e J A);have F:∀id,id<1000000->id∈G l\/id∈C l\/bs.dst=some id->id∉C b:=λid j c u=>M id u j (by
  rcases c with c|c|c
  ·simp[c]
  ·simp[c]
  simp[u1 c])
 have H:∀id,id<1000000->id∈G b\/bl.dst=some id->id∉C l:=λid j c u=>N id u j (by
  rcases c with c|c
  ·simp[c]
  simp[u1 c])
 have ci:∀id,id<1000000->id∈C b->id∉C l:=λid j c u=>F id j (.inr (.inl u)) c;have ce:vS (G b) f.S f.keep:=by
  refine⟨λid k h=>?_,λid k h=>?_,λid k t am m n h T w=>?_⟩
  ·obtain⟨aw,a⟩:=an id k;rcases a with a|a
   ·exact H id U (.inl h) a.1
   exact(d2 id aw a).2.1 h
  ·obtain⟨aw,a⟩:=an id k;rcases a with a|a
   ·exact a.2.resolve_left (H _ U (.inl h))
   exact cv id 1 (.ref id []) k aw (by rw[(U:id+1000000*1+500000=id+1500000)];exact a) (a6 _) rfl (λd7 w=>.inl (by simpa[ao.ids] using w))
  obtain⟨_,a⟩:=an id k;obtain⟨Y,Z⟩:=av id t m n h;rcases a with a|a
  ·exact absurd a.1 Y
  exact cv id t am k n (Z a) m T w
 have ad:vS (G l) p.S p.keep:=by
  refine⟨λid k h=>?_,λid k h=>?_,λid k t am m n h T w=>?_⟩
  ·obtain⟨aw,a⟩:=V id k;rcases a with a|a
   ·exact F id U (.inl h) a.1
   exact(d1 id aw a).2.1 h
  ·obtain⟨aw,a⟩:=V id k;rcases a with a|a
   ·exact a.2.resolve_left (F _ U (.inl h))
   exact a4 id 1 (.ref id []) k aw (by rw[(U:id+1000000*1+500000=id+1500000)];exact a) (a6 _) rfl (λd7 w=>.inl (by simpa[ao.ids] using w))
  obtain⟨_,a⟩:=V id k;obtain⟨Y,Z⟩:=ap id t m n h;rcases a with a|a
  ·exact absurd a.1 Y
  exact a4 id t am k n (Z a) m T w
 have y:gQ ic D G C b i p:=by
  refine B.congr (λW r o x=>?_) (λW r id n=>?_) (λid t m n h=>?_)
  ·rw[Q] at r;cases r;rw[ek o x];exact Sb _ _ _ _
  ·rw[Q] at r;cases r;rcases bn id 500000 with j|j
   ·refine q.qQ ?_;rcases n with c|c|c
    ·exact H id U (.inl c)
    ·exact ci id U c
    exact H id U (.inr c)
   exact q.uV j
  exact q.qQ (av id t m n h).1
 have I:gQ ic D G C l (p.app i) f:=by
  refine q.congr (λW r o x=>?_) (λW r id n=>?_) (λid t m n h=>?_)
  ·rw[R] at r;cases r;rw[d9 o x];exact Sc _ ad
  ·rw[R] at r;cases r;rcases bn id 500000 with j|j
   ·exact(y.qQ (F id U n)).symm
   exact(y.uV j).symm
  exact(y.qQ (ap id t m n h).1).symm
 refine⟨y,I,?_,λid=>?_⟩
 ·intro o;rw[bm.rI p,bm.rI f (p.app i),bm.rI f i,bm.rI p i];cases O:f.d with
  |none=>
   cases E:p.d with
   |none=>exact BJ _ _ _ _ _
   |some X=>
    obtain⟨e,v⟩:=X;simp only;split
    ·exact(xy (a3 e v E) ce).symm
    exact BJ _ _ _ _ _
  |some d8=>
   obtain⟨s,L⟩:=d8;cases E:p.d with
   |none=>
    simp only;split
    ·exact xy (cs s L O) ad
    exact BJ _ _ _ _ _
   |some X=>
    obtain⟨e,v⟩:=X;have P:e≠s:=P e v s L E O;simp only;by_cases q:e=o
    ·subst q;rw[aj rfl,ag (Ne.symm P),aj rfl];exact(xy (a3 e v E) ce).symm
    rw[ag q,ag q];split
    ·exact xy (cs s L O) ad
    exact BJ _ _ _ _ _
 rcases bn id 500000 with j|j
 ·by_cases u:id∈C b
  ·have a0:=ci id U u;rw[I.qQ a0,bm.qd p,bm.qd p,q.qQ a0]
  rw[B.qQ u,bm.qd f,bm.qd f,y.qQ u]
 rw[B.uV j,q.uV j,I.uV j,y.uV j]
def gQ.seq (a:iM i X) (c:gQ ic D G C b i p):gQ ic D G C b X p:=
 c.congr (λ_ _ d _=>.refl (a.g d).symm) (λ_ _ id _=>a.h id) (λid _ _ _ _=>a.h id)
def l9.seq:∀{c:ac7} {d e f:aO},iM d e->l9 ic D G C c d f->l9 ic D G C c e f
 |[],_,_,_,a,h=>a.symm.trans h
 |_::_,_,_,_,a,⟨b,g,i⟩=>⟨b,g.seq a,l9.seq (a.app b) i⟩
def l9.front {g:Nat} {h:ac7}:∀{b:ac7} {a d:aO},(∀x∈b,rR D G C x g=true)->l9 ic D G C (b++g::h) a d->∃c,gQ ic D G C g a c/\l9 ic D G C (b++h) (c.app a) d
 |[],a,d,_,⟨c,e,f⟩=>⟨c,e,f⟩
 |x::b,a,d,i,⟨k,e,f⟩=>by obtain⟨j,o,p⟩:=l9.front (λr q=>i r (by simp[q])) f;obtain⟨l,m,n⟩:=gQ.swap (i x ab) e o;exact⟨j,l,k,m,p.seq n⟩
end
end
section
section
variable {ic:fo} {F:Array Oper} {gT gh:Nat->ac7}
def xn {E:Type} {B:aO->Option E} {D:E}:∀{z:ac7} {b:aO},qJ ic F gT gh z b B=some D->∃c,l9 ic F gT gh z b c/\B c=some D
 |[],b,a=>⟨b,iM.refl b,a⟩
 |i::z,b,a=>by
  simp only[qJ] at a;split at a
  ·cases a
  rename_i s r;split at a
  ·rename_i o;obtain⟨f,v,w,x⟩:=IV a;obtain⟨c,k,l⟩:=xn x;exact⟨c,⟨f,⟨s,r,.inl ⟨by unfold i5;rw[o],v,w⟩⟩,k⟩,l⟩
  rename_i J A o;split at a
  case h_2=>cases a
  rename_i q e y C;split at a
  case h_3=>cases a
  case h_2=>
   rename_i K p;cases j:fC ic.n ic.pin e with
   |false=>rw[j] at a;cases a
   |true=>
   rw[j] at a;obtain⟨c,k,l⟩:=xn a;refine⟨c,⟨vt e,⟨s,r,.inr ⟨?_,e,C,j,rfl⟩⟩,k⟩,l⟩;unfold i5;rw[o];simp only[y,p]
  rename_i d p;cases j:fC ic.n ic.pin e with
  |false=>rw[j] at a;cases a
  |true=>
  rw[j] at a;simp only[cond_true] at a;have t:∀u,d=u->iM ⟨(q,.val .bool u)::b.g,b.h⟩ b:=λu m=>⟨λI=>by
   show gt ((q,_)::b.g) I=_;rw[hj];split
   ·rename_i f;rw[<-f,p,m]
   rfl,λ_=>rfl⟩
  split at a
  ·rename_i m;obtain rfl:d=A:=(by simpa using m);obtain⟨f,v,w,x⟩:=IV a;obtain⟨c,k,l⟩:=xn x;have G:gQ ic F gT gh i ⟨(q,.val .bool d)::b.g,b.h⟩ f:=by
    refine⟨s,r,.inl ⟨?_,v,w⟩⟩;unfold i5;rw[o];simp only[y,(t d rfl).g q,p];simp
   exact⟨c,⟨f,G.seq (t d rfl),k.seq ((t d rfl).app f)⟩,l⟩
  rename_i m;have H:d=!A:=by cases d<;>cases A<;>first|rfl|cases m
  obtain⟨c,k,l⟩:=xn a;refine⟨c,⟨vt e,⟨s,r,.inr ⟨?_,e,C,j,rfl⟩⟩,k.seq ((t _ H).app (vt e))⟩,l⟩;unfold i5;rw[o];simp only[y,p];exact m
structure j9 where
 i:Nat
 d:ac7
 au:ac7
 ps:ac7
 gT:ac7
 gh:ac7
def qC:ac7->ac7->Bool
 |[],[]=>true
 |a::c,b::d=>Nat.beq a b&&qC c d
 |_,_=>false
def od:∀{c d:ac7},qC c d=true->c=d
 |[],[],_=>rfl
 |a::c,e::d,b=>by simp only[qC,bc] at b;rw[ep b.1,od b.2]
 |[],_::_,b=>by cases b
 |_::_,[],b=>by cases b
def oz (F:Array Oper) (gT gh:Nat->ac7) (a:j9):Bool:=match F[a.i]? with
 |some b=>qC (dl b) a.d&&qC (b.looksAt F) a.au&&qC (ou F a.i) a.ps&&qC (gT a.i) a.gT&&qC (gh a.i) a.gh
 |none=>false
def DI (a b:j9):Bool:=qy a.d b.au&&qy a.d b.d&&qy b.d a.au&&qz b.gh (a.d++(a.gT++a.gh))&&qz a.gh (b.d++b.gT)&&(pq a.d a.gT a.gh b.gh&&pq b.d b.gT b.gh a.gh)
def P3 {l j:j9} (b:oz F gT gh l=true) (a:oz F gT gh j=true) (d:DI l j=true):rR F gT gh l.i j.i=true:=by
 unfold oz at b a;split at b
 case h_2=>cases b
 rename_i y s;split at a
 case h_2=>cases a
 rename_i x r;simp only[bc] at b a;obtain⟨⟨⟨⟨z,A⟩,E⟩,B⟩,C⟩:=b;obtain⟨⟨⟨⟨i1,t⟩,D⟩,u⟩,v⟩:=a;unfold DI at d;rw[<-od z,<-od A,<-od B,<-od C,<-od i1,<-od t,<-od u,<-od v] at d;simp only[bc] at d;obtain⟨⟨⟨⟨⟨f,g⟩,h⟩,n⟩,o⟩,p,q⟩:=d;unfold rR;simp only[s,r,n,o,p,q,Bool.and_true];have f:=qy.ok f;have g:=qy.ok g;have h:=qy.ok h;unfold Oper.apart;rw[bc];constructor
 ·cases e:y.dst with
  |none=>rfl
  |some c=>
   have k:=f c (u1 e);have w:=g c (u1 e);simp only[bc,vD];refine⟨?_,?_⟩
   ·rw[<-Bool.not_eq_true,List.contains_iff_mem];exact k
   rw[bne_iff_ne];intro m;exact w (u1 m)
 cases e:x.dst with
 |none=>rfl
 |some c=>
  have k:=h c (u1 e);simp only[vD];rw[<-Bool.not_eq_true,List.contains_iff_mem];exact k
def jJ (a b:Nat):Bool:=Nat.beq (Nat.land (Nat.shiftRight a b) 1) 1
def Dm (a b:Nat):Nat:=Nat.lor a (Nat.shiftLeft 1 b)
def tP:jJ b l=true↔b.testBit l=true:=by
 unfold jJ;rw[Nat.testBit_eq_decide_div_mod_eq];show Nat.beq ((b>>>l)&&&1) 1=true↔_;rw[Nat.shiftRight_eq_div_pow,Nat.and_one_is_mod];constructor
 ·intro a;exact decide_eq_true (ep a)
 intro a;rw[of_decide_eq_true a];rfl
def H4 (a:jJ (Nat.lor l W) b=true):jJ l b=true\/jJ W b=true:=by rw[tP] at a|-;rw[tP];have:(l|||W).testBit b=true:=a;rw[Nat.testBit_or] at this;simpa using this
def H3 (a:jJ (Dm W l) b=true):jJ W b=true\/b=l:=by
 rcases H4 a with a|a
 ·exact .inl a
 right;rw[tP] at a;have:(1<<<l).testBit b=true:=a;rw[Nat.shiftLeft_eq,gN,yU] at this;have:=of_decide_eq_true this;omega
def zh (a:jJ 0 b=true):False:=by rw[tP] at a;simp at a
def v2 (a:ac9):ac7->Nat
 |[]=>0
 |p::b=>Nat.lor (Dm ((ia.au a p).getD 0) p) (v2 a b)
def HB {e:ac9}:∀{d:ac7} {b:Nat},jJ (v2 e d) b=true->∃p∈d,b=p\/∃c,ia.au e p=some c/\jJ c b=true
 |[],_,a=>(zh a).elim
 |p::d,b,a=>by
  rcases H4 a with a|a
  ·refine⟨p,ab,?_⟩;rcases H3 a with a|a
   ·cases f:ia.au e p with
    |none=>rw[f] at a;exact(zh a).elim
    |some c=>rw[f] at a;exact .inr ⟨c,rfl,a⟩
   exact .inl a
  obtain⟨i,h,g⟩:=HB a;exact⟨i,by simp[h],g⟩
def zp (c:Nat):Nat->List j9->ac9->List j9->Bool
 |_,_,_,[]=>true
 |et,d,b,a::f=>
  a.ps.all (λg=>jJ et g)&&(d.all λe=>jJ (v2 b a.ps) e.i||DI e a)&&!(jJ et a.i)&&Nat.blt a.i c&&zp c (Dm et a.i) (a::d) ((a.i,v2 b a.ps)::b) f
def jn (a:List j9):ac7:=a.map (·.i)
def rO (F:Array Oper) (gT gh:Nat->ac7) (a:List j9):Bool:=a.all (oz F gT gh)&&zp F.size 0 [] [] a&&((List.range F.size).all λb=>c9 b (jn a))&&Nat.ble a.length F.size
def yI (F:Array Oper) (a:Nat->Prop):Prop:=∀b,a b->∀c∈ou F b,a c
def oz.ps {b:j9} (a:oz F gT gh b=true):ou F b.i=b.ps:=by
 unfold oz at a;split at a
 case h_2=>cases a
 simp only[bc] at a;exact od a.1.1.2
def DC:∀{t m:List j9} {o:Nat} {v:ac9},zp F.size o m v t=true->(∀r∈t,oz F gT gh r=true)->(∀r∈m,oz F gT gh r=true)->(∀l,jJ o l=true->l∈jn m)->(∀l∈jn m,jJ o l=true)->(∀e u,ia.au v e=some u->∀c,yI F c->c e->∀b,jJ u b=true->c b)->∀g h p,jn t=g++h::p->(∀e∈ou F h,e∈jn m\/e∈g)/\(∀c,yI F c->(∀e∈ou F h,c e)->∀b,(b∈jn m\/b∈g)->¬c b->rR F gT gh b h=true)/\h∉jn m/\h∉g/\h<F.size
 |[],_,_,_,w,_,_,_,_,A,g,h,p,n=>by cases g<;>cases n
 |r::t,m,o,v,w,E,G,d,C,A,g,h,p,n=>by
  simp only[zp,bc,eJ,vD] at w;obtain⟨⟨⟨⟨P,Q⟩,q⟩,R⟩,S⟩:=w;have z:=E r ab;have y:=oz.ps z;have q:r.i∉jn m:=λk=>(by rw[C _ k] at q;cases q);have H:∀c,yI F c->(∀e∈ou F r.i,c e)->∀b,jJ (v2 v r.ps) b=true->c b:=by
   intro c j f b a;obtain⟨e,D,rfl|⟨U,T,a⟩⟩:=HB a
   ·exact f _ (y▸D)
   exact A e U T c j (f e (y▸D)) b a
  cases g with
  |nil=>
   cases n;refine⟨λe f=>.inl (d _ (P e (y▸f))),λc j f b a x=>?_,q,ab,eM R⟩;rcases a with a|a
   ·obtain⟨J,I,rfl⟩:=bR.1 a;have:=Q J I;rcases fX _ _▸this with d|d
    ·exact absurd (H c j f _ d) x
    exact P3 (G J I) z d
   cases a
  |cons V g=>
   simp only[jn,eo,jc,fJ] at n;obtain⟨rfl,n⟩:=n;obtain⟨L,M,B,N,O⟩:=DC S (λb a=>E b (by simp[a])) (λb a=>by
    rcases dg.1 a with rfl|a
    ·exact z
    ·exact G b a) (λl k=>by
    rcases H3 k with k|rfl
    ·exact e1 _ (d l k)
    ·exact jE ..) (λl k=>by
    rw[tP];show(o|||(1<<<r.i)).testBit l=true;rw[Nat.testBit_or,fX];rcases dg.1 k with rfl|k
    ·right;rw[Nat.shiftLeft_eq,gN,yU];simp
    ·left;exact tP.1 (C l k)) (λe u s c j f b a=>by
    rw[bU] at s;split at s
    ·rename_i K;cases s;subst K;exact H c j (j _ f) b a
    exact A e u s c j f b a) g h p n
   refine⟨λe f=>?_,λc j f b a x=>M c j f b ?_ x,λd=>B (e1 _ d),λd=>?_,O⟩
   ·rcases L e f with d|d
    ·rcases dg.1 d with rfl|d
     ·exact .inr ab
     exact .inl d
    exact .inr (by simp[d])
   ·rcases a with a|a
    ·exact .inl (e1 _ a)
    rcases dg.1 a with rfl|a
    ·exact .inl (jE ..)
    exact .inr a
   rcases dg.1 d with rfl|d
   ·exact B (jE ..)
   exact N d
variable {E:dR} {C:dn}
def gQ.wp (k:ic.ac E C) (e:gQ ic F gT gh b i p) {c:Act} (j:e3 C i c.tmps v) {next:Act->World->Prop} (l:∀a d,a.defers=c.defers->e3 C (p.app i) a.tmps d->next a d):wpOp E.P F o b next c v:=by
 obtain⟨z,s,e⟩:=e;obtain⟨m,w,n,f⟩:=id j;unfold wpOp;simp only[s];rcases e with⟨h,q,_⟩|⟨h,x,g,u,rfl⟩
 ·rw[h.ok f,aj rfl];refine .inl (IU k q c v j _ _ ?_);rintro A a d ⟨y,r,rfl⟩ g t;cases r;exact l a d g t
 rw[h.ok f,ag ab,g];exact l _ v rfl ⟨m,w,n,f.put (fC.ok k u) (.bQ undef)⟩
def left (a:ac7) (c:Array Bool):ac7:=a.filter λb=>!c.getD b true
def J4 {d:Array Bool} {e:ac7} (g:left f d=A++b::e) (h:b∉A) (i:b∉e) (j:b<d.size):left f (d.setIfInBounds b true)=A++e:=by
 have:left f (d.setIfInBounds b true)=(left f d).filter λc=>!(c==b):=by
  unfold left;rw[List.filter_filter];refine vL λc _=>?_;by_cases a:b=c
  ·subst a;have:(d.setIfInBounds b true).getD b true=true:=(by simp[Array.getD,j]);rw[this];simp
  rw[getD_set_ne true a];have:(c==b)=false:=(by simp;omega);rw[this];simp
 rw[this,g,ln,tz ab];congr 1
 ·exact l4.2 λc a=>by simp;rintro rfl;exact h a
 exact l4.2 λc a=>by simp;rintro rfl;exact i a
def F4 (f:F[b]?=some h):l∈ou F b↔∃a∈h.after,Region.binds .any a=true/\a.on=l:=by
 unfold ou;rw[f];simp only[bR,gr,Array.mem_toList_iff];constructor
 ·rintro⟨a,⟨c,d⟩,e⟩;exact⟨a,c,d,e⟩
 rintro⟨a,c,d,e⟩;exact⟨a,⟨c,d⟩,e⟩
def O4 (fp:ic.ac E C) {Z:List j9} (el:f=jn Z) (B:rO F gT gh Z=true) {t:aO} {ds:List Deferred} (av:∀e j,e.defers=ds->e3 C t e.tmps j->o .normal e j):∀(y:Nat) (a:Array Bool) (e:Act) (j:World) (K:aO),a.size=F.size->(left f a).length<=y->yI F (λd=>a.getD d true=true/\d<F.size)->l9 ic F gT gh (left f a) K t->e3 C K e.tmps j->e.defers=ds->wpAny E.P .any F o y a e j:=by
 unfold rO at B;simp only[bc,eJ,gL] at B;obtain⟨⟨⟨fT,B⟩,a0⟩,_⟩:=B;have L:=DC B fT ab (λd a4=>(zh a4).elim) (by simp[jn]) (λQ f7 b=>by cases b);rw[<-el] at L a0;have Y:∀i,i<F.size->i∈f:=λi G=>ej.1 (a0 i G);have d7:∀{a:Array Bool} {d:Nat},a.size=F.size->d<F.size->a.getD d true=true->a.getD d false=true:=(by intro a d g a4 b;have:d<a.size:=U;simpa[Array.getD,this] using b);have cs:∀{a:Array Bool} {i:Nat},a.size=F.size->i∈Region.ready .any F a->i<F.size/\a.getD i true=false/\∃h,F[i]?=some h/\∀c∈h.after,Region.binds .any c=true->a.getD c.on false=true:=(by intro a i g G;obtain⟨u,h,l,n⟩:=mem_ready.1 G;exact⟨(lY.1 l).1,u,h,l,n⟩);have first:∀{a:Array Bool} {i:Nat} {S:ac7},a.size=F.size->left f a=i::S->i∈Region.ready .any F a:=by
  intro a i S g H;have J:i∈left f a:=(by rw[H];simp);have fn:i∈f:=(gr.1 J).1;have f1:a.getD i true=false:=(by simpa using(gr.1 J).2);obtain⟨k,s,p⟩:=vK fn;obtain⟨d4,_,_,z,d6⟩:=L k i s p;obtain⟨h,l⟩:∃h,F[i]?=some h:=⟨_,vB d6⟩;refine mem_ready.2 ⟨f1,h,l,λc q D=>?_⟩;have w:c.on∈ou F i:=(F4 l).2 ⟨c,q,D,rfl⟩;have an:c.on∈k:=by
   rcases d4 _ w with b|b
   ·cases b
   exact b
  have fz:∀m∈k,a.getD m true=true:=by
   intro m x;cases f2:a.getD m true with
   |true=>rfl
   |false=>
    obtain⟨R,dl,ap⟩:=vK x;have:left f a=left R a++m::(left dl a++left (i::s) a):=(by show List.filter _ f=_;rw[p,ap];simp only[left,ln,jD,f2,kr,jc];rfl);rw[H] at this;cases T:left R a with
    |nil=>rw[T] at this;cases this;exact absurd x z
    |cons f8 f5=>
     rw[T] at this;cases this;have:i∈left R a:=(by rw[T];simp);exact absurd (by rw[ap];exact mS _ (gr.1 this).1) z
  have I:c.on<F.size:=(by have:c.on∈f:=(by rw[p];exact mS _ an);obtain⟨cv,d0,d8⟩:=vK this;exact(L cv c.on d0 d8).2.2.2.2);exact d7 g I (fz _ an)
 intro y
 induction y with
 |zero=>
  intro a e j K g W V r M N;have ce:left f a=[]:=C7.1 U;rw[ce] at r;refine⟨?_,av e j N (M.seq r)⟩;cases X:Region.ready .any F a with
  |nil=>rfl
  |cons i f5=>
   obtain⟨u,n,_⟩:=cs g (i:=i) (by rw[X];simp);have:i∈left f a:=gr.2 ⟨Y i u,by rw[n];rfl⟩;rw[ce] at this;cases this
 |succ y f4=>
  intro a e j K g W V r M N;constructor
  ·intro X;cases H:left f a with
   |nil=>rw[H] at r;exact av e j N (M.seq r)
   |cons i S=>
    have:=first g H
    rw[X] at this;cases this
  intro i G;obtain⟨u,n,h,l,am⟩:=cs g G;have J:i∈left f a:=gr.2 ⟨Y i u,by rw[n];rfl⟩;obtain⟨k,s,p⟩:=vK (Y i u);obtain⟨_,d5,_,z,_⟩:=L k i s p;have a3:i∉s:=(by intro J;obtain⟨d1,d2,ek⟩:=vK J;have:=(L (k++i::d1) i d2 (by rw[p,ek];simp)).2.2.2.1;exact this ab);have O:left f a=left k a++i::left s a:=(by show List.filter _ f=_;rw[p];simp only[left,ln,jD,n];rfl);have eq:∀m∈left k a,rR F gT gh m i=true:=by
   intro m x;obtain⟨f3,co⟩:=gr.1 x;refine d5 _ V (λQ w=>?_) m (.inr f3) (λx=>by rw[x.1] at co;cases co);obtain⟨c,q,D,rfl⟩:=(F4 l).1 w;have A:=am c q D;have I:c.on<a.size:=by
    cases bn c.on a.size with
    |inl b=>exact b
    |inr b=>simp[Array.getD,Nat.not_lt.2 b] at A
   refine⟨?_,U⟩;simpa[Array.getD,I] using A
  rw[O] at r;obtain⟨c,q,f0⟩:=l9.front eq r;refine q.wp fp M (λd3 f6 ex em=>f4 _ d3 f6 (c.app K) (by simp[g]) ?_ ?_ ?_ em (ex.trans N))
  ·rw[J4 O (λb=>z (gr.1 b).1) (λb=>a3 (gr.1 b).1) U];rw[O] at W;simp at W|-;omega
  ·intro d ⟨bl,fs⟩ Q w;by_cases bs:i=d
   ·subst bs;obtain⟨c,q,D,rfl⟩:=(F4 l).1 w;have A:=am c q D;have I:c.on<a.size:=by
     cases bn c.on a.size with
     |inl b=>exact b
     |inr b=>simp[Array.getD,Nat.not_lt.2 b] at A
    have v:=getD_set_true (i:=i) A;refine⟨?_,U⟩;have ft:c.on<(a.setIfInBounds i true).size:=(by simpa using I);have al:∀ad,(a.setIfInBounds i true).getD c.on ad=(a.setIfInBounds i true)[c.on]:=λad=>(by simp only[Array.getD,ft,dif_pos];rfl);rw[al] at v|-;exact v
   rw[getD_set_ne true bs] at bl;obtain⟨v,d9⟩:=V d ⟨bl,fs⟩ Q w;refine⟨?_,d9⟩;by_cases ci:i=Q
   ·subst ci;rw[n] at v;cases v
   rw[getD_set_ne true ci];exact v
  rw[J4 O (λb=>z (gr.1 b).1) (λb=>a3 (gr.1 b).1) U];exact f0
def J.draw (H:E.P.follows .mixedOrders=true) (A:ic.ac E C) {g:aO->Option a} {k:a} {id:Nat} {c:List j9} {h:Exit->aO->Prop} (b:rO F gT gh c=true) (e:qJ ic F gT gh (jn c) i g=some k) (v:∀l,g l=some k->h .normal l):J E C (.region id F true) i h:=by
 obtain⟨d,r,s⟩:=xn e;intro p N f x;refine wp_region_any H ?_;have j:left (jn c) (Array.replicate F.size false)=jn c:=(by refine l4.2 λK z=>?_;unfold rO at b;simp only[bc,eJ] at b;obtain⟨m,n,u⟩:=vK z;have:=(DC b.1.1.2 b.1.1.1 ab (λL B=>(zh B).elim) (by simp[jn]) (λQ R e=>by cases e) m K n u).2.2.2.2;simp[Array.getD,this]);have I:(jn c).length<=F.size:=(by unfold rO at b;simp only[bc] at b;rw[jn,fK];exact eM b.2);refine O4 A rfl b (t:=d) (ds:=[]) (λO S y w=>⟨d,v d s,w,y⟩) F.size _ p _ i ab (by rw[j];exact I) ?_ (by rw[j];exact r) ?_ x
 ·intro L ⟨D,G⟩;simp[Array.getD,G] at D
 obtain⟨o,M,q,f⟩:=f;exact⟨o,M,q,f.RD (gq.refl N).drew⟩
end
end
section
inductive C4 where
 |none
 |x (l:ac7) (yq:lx)
 |te (l:ac7) (yq:lx)
inductive C5 where
 |r
 |x (id:Nat) (yq:lx)
 |te (id:Nat) (yq:lx)
inductive kO where
 |leaf
 |one (a:kO)
 |two (j:C4) (a b:kO)
 |loop (yq:lx) (m:C5) (a:kO)
 |keep (l:ac7) (a:kO)
 |na (F:ac7) (a:kO)
 |draw (L:List j9)
def Bz:List j9->Nat->ac7
 |[],_=>[]
 |r::b,a=>bif Nat.beq r.i a then r.gT else Bz b a
def BX:List j9->Nat->ac7
 |[],_=>[]
 |r::b,a=>bif Nat.beq r.i a then r.gh else BX b a
def Ib {A:Type} (id:Nat) (b:Exit->aO->Option A):Exit->aO->Option A
 |.exit c,a=>match Nat.beq c id with
  |true=>b .normal a
  |false=>b (.exit c) a
 |e,a=>b e a
def R5 {a:Type} (c:aO->Option a):Exit->aO->Option a
 |.normal,b=>c b
 |_,_=>none
def R6 {b A:Type} (d:aO->Option b) (c:Exit->aO->Option A):Exit->aO->Option (b⊕A)
 |.normal,a=>(d a).map .inl
 |e,a=>(c e a).map .inr
def ym {A:Type} (c:aO->Option A) (b:Exit->aO->Option A):Exit->aO->Option A
 |.normal,a=>c a
 |e,a=>b e a
def SF {b A:Type} (d:aO->Option b) (c:Exit->aO->Option A):Exit->aO->Option (b⊕A)
 |.normal,a=>(d a).map .inl
 |e,a=>(c e a).map .inr
def Kc {b c:Type} (e:aO->Option b) (id:Nat) (f:aO->Option c):Exit->aO->Option (b⊕c)
 |.normal,a=>(e a).map .inl
 |.exit d,a=>match Nat.beq d id with
  |true=>(f a).map .inr
  |false=>none
 |_,_=>none
def Kd {f g A:Type} (h:aO->Option f) (id:Nat) (i:aO->Option g) (c:Exit->aO->Option A):Exit->aO->Option (f⊕(g⊕A))
 |.normal,a=>(h a).map .inl
 |.exit d,a=>match Nat.beq d id with
  |true=>(i a).map λb=>.inr (.inl b)
  |false=>(c (.exit d) a).map λb=>.inr (.inr b)
 |e,a=>(c e a).map λb=>.inr (.inr b)
def gy:fo->kO->Code->aO->(A:Type)->(Exit->aO->Option A)->Option A
 |ic,.leaf,e,b,_,a=>match e with
  |.skip=>a .normal b
  |.exit id=>a (.exit id) b
  |.ret=>a .ret b
  |.region _ o false=>jl ic o (List.range o.size) b (a .normal)
  |_=>none
 |ic,.one d,e,b,A,a=>match e with
  |.block id i=>gy ic d i b A (Ib id a)
  |_=>none
 |ic,.two u d q,e,b,A,a=>match e with
  |.seq i p=>match u with
   |.none=>gy ic d i b A (ym (λl=>gy ic q p l A a) a)
   |.x j c=>match qK b.g j with
    |some f=>(gy {ic with pin:=j++ic.pin,kg:=f++ic.kg} d i b c.den (R5 (proj c))).bind λk=>gy ic q p (si {ic with pin:=j++ic.pin,kg:=f++ic.kg} c k) A a
    |none=>none
   |.te j c=>match qK b.g j with
    |some f=>(gy {ic with pin:=j++ic.pin,kg:=f++ic.kg} d i b (c.den⊕A) (R6 (proj c) a)).bind λ
     |.inl k=>gy ic q p (si {ic with pin:=j++ic.pin,kg:=f++ic.kg} c k) A a
     |.inr f=>some f
    |none=>none
  |.cond w i p=>match aR b.g w with
   |.val .bool y=>match y with
    |true=>gy ic d i b A a
    |false=>gy ic q p b A a
   |_=>none
  |_=>none
 |ic,.loop c v d,e,b,A,a=>match e with
  |.loop i=>(proj c b).bind λs=>match v with
   |.r=>(loop (λl=>gy ic d i (si ic c l) (c.den⊕A) (SF (proj c) a)) s).bind some
   |.x id m=>(loop (λl=>gy ic d i (si ic c l) (c.den⊕m.den) (Kc (proj c) id (proj m))) s).bind λk=>a (.exit id) (si ic m k)
   |.te id m=>(loop (λl=>gy ic d i (si ic c l) (c.den⊕(m.den⊕A)) (Kd (proj c) id (proj m) a)) s).bind λ
    |.inl k=>a (.exit id) (si ic m k)
    |.inr f=>some f
  |_=>none
 |ic,.draw n,e,b,_,a=>match e with
  |.region _ o true=>bif rO o (Bz n) (BX n) n then qJ ic o (Bz n) (BX n) (jn n) b (a .normal) else none
  |_=>none
 |ic,.na t d,e,b,A,a=>bif lG b.h t then gy ic d e (qG t b) A a else none
 |ic,.keep j d,e,b,A,a=>match qK b.g j with
  |some f=>gy {ic with pin:=j++ic.pin,kg:=f++ic.kg} d e b A a
  |none=>none
section
variable {E:dR} {C:dn} {ic:fo} {A:Type}
def J.post (t:nL C D) {f:Code} {d:Exit->aO->Prop} (n:J E C f i (λj c=>d j c\/∃(e a:aO),d j e/\e=⟨D++a.g,a.h⟩/\m0 a.g c/\m1 a.h c/\kE a.g a.h=true)):J E C f i d:=
 λm u r s=>wp_mono (n m u r s) (λ_ _ _ ⟨c,b,k,l⟩=>by
  rcases b with b|⟨e,a,b,rfl,o,p,q⟩
  ·exact⟨c,b,k,l⟩
  exact⟨_,b,(k.we o p q).kg t,l⟩)
def kD:∀{U:kO} {C:dn} {ic:fo} {n:Code} {k:aO} {A:Type} {l:Exit->aO->Option A} {r:A} {m:Exit->aO->Prop},ic.ac E C->gy ic U n k A l=some r->(∀e i,l e i=some r->m e i)->J E C n k m
 |.leaf,C,ic,n,k,A,l,r,m,b,a,d=>by
  simp only[gy] at a;split at a
  ·exact J.skip (d _ _ a)
  ·exact J.exit (d _ _ a)
  ·exact J.ret (d _ _ a)
  ·exact J.region (RR b (λi c=>d _ i c) a)
  cases a
 |.one F,C,ic,n,k,A,l,r,m,b,a,d=>by
  simp only[gy] at a;split at a
  ·refine J.block (kD b a ?_);intro e i c;cases e with
   |exit K=>
    simp only[Ib] at c;simp only[Dy];split at c
    ·rename_i q;rw[q];exact d _ _ c
    rename_i q;rw[q];exact d _ _ c
   |_=>exact d _ _ c
  cases a
 |.two K F a0,C,ic,n,k,A,l,r,m,b,a,d=>by
  simp only[gy] at a;split at a
  ·rename_i x ap;refine J.seq ?_;split at a
   ·refine kD b a ?_;intro e i c;cases e with
    |normal=>exact kD b c d
    |_=>exact d _ _ c
   ·rename_i B D;split at a
    case h_2=>cases a
    rename_i O I;obtain⟨j,z,a⟩:=bZ.1 a;refine J.keep b.2.2.2.2 I (λP t u o v w=>J.post o (kD (ic:={ic with pin:=B++ic.pin,kg:=O++ic.kg}) ⟨b.1,b.2.1.trans t.symm,by rw[u,<-b.2.2.1],⟨b.2.2.2.1.1,v _ b.2.2.2.1.2.1,b.2.2.2.1.2.2.1,w b.2.2.2.1.2.2.2.1,b.2.2.2.1.2.2.2.2⟩,o⟩ z ?_));intro e i c;cases e with
    |normal=>exact .inr ⟨_,_,kD b a d,rfl,q7 c⟩
    |_=>cases c
   rename_i B D;split at a
   case h_2=>cases a
   rename_i O I;obtain⟨j,z,a⟩:=bZ.1 a;refine J.keep b.2.2.2.2 I (λP t u o v w=>J.post o (kD (ic:={ic with pin:=B++ic.pin,kg:=O++ic.kg}) ⟨b.1,b.2.1.trans t.symm,by rw[u,<-b.2.2.1],⟨b.2.2.2.1.1,v _ b.2.2.2.1.2.1,b.2.2.2.1.2.2.1,w b.2.2.2.1.2.2.2.1,b.2.2.2.1.2.2.2.2⟩,o⟩ z ?_));intro e i c;cases e with
   |normal=>
    obtain⟨ad,g,f⟩:=dY.1 c;cases f;exact .inr ⟨_,_,kD b a d,rfl,q7 g⟩
   |_=>
    obtain⟨ad,g,f⟩:=dY.1 c;cases f;cases a;exact .inl (d _ _ g)
  ·rename_i bs x ap;split at a
   ·rename_i ce X;refine J.cond X (λe=>?_) (λe=>?_)
    ·subst e;exact kD b a d
    subst e;exact kD b a d
   cases a
  cases a
 |.loop D Y F,C,ic,n,k,A,l,r,m,b,a,d=>by
  simp only[gy] at a;split at a
  case h_2=>cases a
  rename_i x;obtain⟨bl,V,a⟩:=bZ.1 a;obtain⟨L,M,N⟩:=q7 V;refine J.post b.2.2.2.2 ?_;cases Y with
  |r=>
   refine J.loop (jh D) a L M N ?_;intro i Q y s;refine J.kg b.2.2.2.2 (kD b y ?_);intro e R c;cases e with
   |normal=>
    obtain⟨j,g,f⟩:=dY.1 c;cases f;exact⟨rfl,q7 g⟩
   |_=>
    obtain⟨j,g,f⟩:=dY.1 c;cases f;cases s;exact⟨(λa=>by cases a),.inl (d _ _ g)⟩
  |x id an=>
   refine J.loop (jh D) a L M N ?_;intro i Q y s;refine J.kg b.2.2.2.2 (kD b y ?_);intro e R c;cases e with
   |normal=>
    obtain⟨j,g,f⟩:=dY.1 c;cases f;exact⟨rfl,q7 g⟩
   |exit K=>
    simp only[Kc] at c;split at c
    ·rename_i q;obtain rfl:=ep q;obtain⟨j,g,f⟩:=dY.1 c;cases f;exact⟨(λa=>by cases a),.inr ⟨_,_,d _ _ s,rfl,q7 g⟩⟩
    cases c
   |_=>cases c
  |te id an=>
   refine J.loop (jh D) a L M N ?_;intro i Q y s;refine J.kg b.2.2.2.2 (kD b y ?_);intro e R c;cases e with
   |normal=>
    obtain⟨j,g,f⟩:=dY.1 c;cases f;exact⟨rfl,q7 g⟩
   |exit K=>
    simp only[Kd] at c;split at c
    ·rename_i q;obtain rfl:=ep q;obtain⟨j,g,f⟩:=dY.1 c;cases f;exact⟨(λa=>by cases a),.inr ⟨_,_,d _ _ s,rfl,q7 g⟩⟩
    obtain⟨j,g,f⟩:=dY.1 c;cases f;cases s;exact⟨(λa=>by cases a),.inl (d _ _ g)⟩
   |_=>
    obtain⟨j,g,f⟩:=dY.1 c;cases f;cases s;exact⟨(λa=>by cases a),.inl (d _ _ g)⟩
 |.draw G,C,ic,n,k,A,l,r,m,b,a,d=>by
  simp only[gy] at a;split at a
  case h_2=>cases a
  rename_i id Z;cases p:rO Z (Bz G) (BX G) G with
  |false=>rw[p] at a;cases a
  |true=>
  rw[p] at a;exact J.draw E.mix b p a (λi c=>d _ i c)
 |.na S F,C,ic,n,k,A,l,r,m,b,a,d=>by
  simp only[gy] at a;cases p:lG k.h S with
  |false=>rw[p] at a;cases a
  |true=>
  rw[p] at a;intro T am H W;obtain⟨av,a4,a3,H⟩:=H;exact kD b a d T am (H.freeze (lG.ok p)) W
 |.keep B F,C,ic,n,k,A,l,r,m,b,a,d=>by
  simp only[gy] at a;split at a
  case h_2=>cases a
  rename_i j z;refine J.keep b.2.2.2.2 z ?_;intro P t u o v w;exact kD (ic:={ic with pin:=B++ic.pin,kg:=j++ic.kg}) ⟨b.1,b.2.1.trans t.symm,by rw[u,<-b.2.2.1],⟨b.2.2.2.1.1,v _ b.2.2.2.1.2.1,b.2.2.2.1.2.2.1,w b.2.2.2.1.2.2.2.1,b.2.2.2.1.2.2.2.2⟩,o⟩ a d
end
end
end Go.ia
end
