/-
  Parts of the proof: Fw38, Fw22, Fw23, Fw26, Fw27, Fw28, Fw34, Fw35, Fw37, Fw42, Fw45, Fw24, Fw29, Fw31, Fw32, Fw33, Fw30: the framework (Fw), pure forms (Dn), plain laws (Pl, Th), calls of functions (Ok).
-/
import Derived.Test.YtkhcdgkdpjahpaaGreatDoorB34cc215a

set_option linter.all false
set_option maxHeartbeats 1000000
noncomputable section
namespace Go.h2
variable{a:Type}{b l W:Nat}{c q:TypeId}{d t:ao}{e P:List (Nat×aH)}{f x:ad4}{g:List (Nat×List a5)}{h:Oper}{i X:aQ}{j:List a5}{k:List (Nat×aj)}{m w:Operand}{n y:aj}{o:Exit->Act->World->Prop}{r:Array (Nat×Operand)}{s:Program}{u:aQ->Prop}{v:World}{z:Nat->adY}{A:Nat->ad4}{B:Nat->Prop}{C:Exit->aQ->Prop}{D:List (Nat×ao)}{E:adY}{F Y:Operand->ao}{G:aH}{H:Value}{I:Bool}{L:List ao}{M:List ResultVar}{N:Op}{O:MapEntry}{Q:dg->Nat->Prop}{R:Array Operand}{S:List aH}{T:a5}{V:Array TypeId}
section
def sa:List ao->ad1->Option (Nat×List a5)
 |.ref id (c::b)::_,true::_=>some (id,c::b)
 |_::as,_::a=>sa as a
 |_,_=>none
def pf (id:Nat) (a:ao):ao:=bif a.ej [id] then .dead else a
def ll (id:Nat):List ao->ad1->List ao
 |.ref _ (_::_)::as,true::_=>.ref id []::as.map (pf id)
 |a::as,_::b=>pf id a::ll id as b
 |as,_=>as.map (pf id)
def jt {a:Type} (c:Nat->a) (d:Nat) (e:a):Nat->a:=λb=>if b=d then e else c b
def lQ {d:Nat->a} {c:a}:jt d b c b=c:=by simp[jt]
def jW {c:Nat->a} {e:a} (d:b≠l):jt c l e b=c b:=by simp[jt,d]
section
variable {E:eh} {C:dD} {st:aQ} {A:adW} {w w':World} {I I':Nat->Prop} {rt:Nat->adY} {fp:Nat->ad4}
def rI {id:Nat} (a:Nat):au ((id,G)::del [id] e) a=if id=a then some G else au e a:=by
 rw[b1];split
 ·rfl
 rename_i b;rw[lK,ah (by simpa usingλc=>b c.symm)]
def bC.split (e:bC C st A w I rt fp) {id:Nat} {v:aH} (q:au st.h id=some v) {i:aj} {m:i.den} {r:adY} {j K:ad4} (E:aT (bj I C.B) w i r m j) (u:(fp id).Perm (j++K)):bC C ⟨[],(id,⟨i,m⟩)::del [id] st.h⟩ A w I (jt rt id r) (jt fp id j):=by
 obtain⟨_,H,J⟩:=e.tree id v q;have p:∀a∈j,a∈fp id:=λa b=>u.mem_iff.2 (by simp[b]);have o:∀c d,au ((id,(⟨i,m⟩:aH))::del [id] st.h) c=some d->(c=id/\d=⟨i,m⟩)\/(c≠id/\au st.h c=some d):=λc d f=>by
  rw[rI] at f;split at f
  ·rename_i n;exact .inl ⟨n.symm,(ee f).symm⟩
  rename_i n;exact .inr ⟨λx=>n x.symm,f⟩
 refine{e with tree:=?_,dis:=?_,tmp:=λc=>.dead _}
 ·intro c d f;rcases o c d f with⟨rfl,rfl⟩|⟨g,k⟩
  ·rw[lQ,lQ];exact⟨E,(iq.1 (u.nodup_iff.1 H)).1,λa b=>J a (p a b)⟩
  rw[jW g,jW g];exact e.tree c d k
 intro F G d L z D l a b;rcases o F d z with⟨rfl,rfl⟩|⟨g,k⟩<;>rcases o G L D with⟨rfl,rfl⟩|⟨s,t⟩
 ·exact absurd rfl l
 ·rw[lQ] at b;rw[jW s];exact e.dis _ _ _ _ q t l a (p a b)
 ·rw[jW g] at b;rw[lQ];exactλy=>e.dis _ _ _ _ k q l a b (p a y)
 rw[jW g] at b;rw[jW s];exact e.dis _ _ _ _ k t l a b
def bL.pf (l:bC C st A w I rt fp) {id:Nat} {q:aH} {i:adY} {j:ad4} {a:ao} {f:Value} (k:bL (bj I C.B) w st.h rt fp a f):bL (bj I C.B) w ((id,q)::del [id] st.h) (jt rt id i) (jt fp id j) (pf id a) f:=by
 unfold h2.pf;cases o:a.ej [id] with
 |true=>exact .dead _
 |false=>
  refine k.rO (λr g n=>⟨n,bT.refl _ _⟩) (λd m p e=>?_);have c:d≠id:=λb=>HS o d m (by simp[b]);refine⟨?_,jW c,jW c,(l.tree d p e).1,λg _=>bT.refl _ _⟩;rw[rI,ah (λb=>c b.symm)];exact e
def Qb (r:bC C st A w I rt fp) {id:Nat} (F:au st.h id=some G) {y:n.den} {v:Loc} {o:adY} {f:ad4} (D:aW w G.1 none (rt id) (T::j) n v o):∀{d:List ao} {c:ad1} {a:adY},hl (bL (bj I C.B) w st.h rt fp) d a->sa d c=some (id,T::j)->hl (bL (bj I C.B) w ((id,⟨n,y⟩)::del [id] st.h) (jt rt id o) (jt fp id f)) (ll id d c) a:=by
 have H:∀{d:List ao} {a:adY},hl (bL (bj I C.B) w st.h rt fp) d a->hl (bL (bj I C.B) w ((id,⟨n,y⟩)::del [id] st.h) (jt rt id o) (jt fp id f)) (d.map (h2.pf id)) a:=by
  intro d
  induction d with
  |nil=>intro a b;cases a with|nil=>trivial|cons=>exact b.elim
  |cons e m q=>intro a b;cases a with|nil=>exact b.elim|cons J a=>exact⟨b.1.pf r,q b.2⟩
 intro d
 induction d with
 |nil=>intro c a _ b;cases c<;>cases b
 |cons e m q=>
  intro c a b i;cases a with
  |nil=>exact b.elim
  |cons J a=>
  cases c with
  |nil=>cases e<;>first|(cases i;done)|(rename_i l g;cases g<;>cases i)
  |cons k c=>
   by_cases p:∃l u g,e=.ref l (u::g)/\k=true
   ·obtain⟨l,u,g,rfl,rfl⟩:=p;simp only[sa,bS,gm,gu] at i;obtain⟨rfl,rfl,rfl⟩:=i;have z:=b.1;cases z with|ref s E=>
    rw[F] at s;cases s;obtain⟨rfl,rfl,rfl⟩:=E.iF D;refine⟨.ref (t:=⟨_,y⟩) (loc:=none) (by rw[rI,ai rfl]) ?_,H b.2⟩;rw[lQ];exact aW.here
   have al:sa (e::m) (k::c)=sa m c:=by cases e<;>first|rfl|(rename_i l g;cases g<;>cases k<;>first|rfl|exact absurd ⟨_,_,_,rfl,rfl⟩ p)
   have x:ll id (e::m) (k::c)=h2.pf id e::ll id m c:=by cases e<;>first|rfl|(rename_i l g;cases g<;>cases k<;>first|rfl|exact absurd ⟨_,_,_,rfl,rfl⟩ p)
   rw[al] at i;rw[x];exact⟨b.1.pf r,q b.2 i⟩
def l5.XN (M:bC C st A w I rt fp) {id:Nat} (v:au st.h id=some G) {z:n.den} (ft:df G.1 G.2 j n z) {bB:Loc} {P:adY} (dl:aW w G.1 none (rt id) j n bB P):∃r x,aT (bj I C.B) w n P z r/\(fp id).Perm (r++x)/\∀{w':World} {I':Nat->Prop} {s:ad4} {O:List (Nat×List a5)} {H:List (Nat×aH)} {W:Nat->adY} {J:Nat->ad4} {X:n.den} {u:G.1.den},l5 C ⟨[],(id,⟨n,z⟩)::del [id] st.h⟩ w w' I I' (jt rt id P) (jt fp id r) s O H W J->id∈s->au H id=some ⟨n,X⟩->(id,[])∈O->(∀g∈O,g.2=[])->dK G.1 G.2 j n X u->∃d6 d8,l5 C st w w' I I' rt fp s ((id,j)::O) ((id,⟨G.1,u⟩)::H) d6 d8/\∀k,k≠id->d6 k=W k:=by
 obtain⟨gc,d4,d5⟩:=M.tree id G v;obtain⟨hr,gs,r,x,d9,ed,ek,L,el,em,eq⟩:=yt j (loc:=none) gc (λ_ _ b=>by cases b) d4 (λ_ _ b=>by cases b) (M.notM v) ft;obtain⟨_,rfl,rfl⟩:=dl.iF d9;refine⟨r,x,ed,L,λ{w' I' s O H W J X u} l cv V o ad d1=>?_⟩;have f4:∀a∈r,a∈fp id:=λa c=>L.mem_iff.2 (by simp[c]);have ds:=iq.1 (L.nodup_iff.1 d4);have Q:∀a,(∃d∈s,∃e,au ((id,(⟨n,z⟩:aH))::del [id] st.h) d=some e/\a∈jt fp id r d)->∃d∈s,∃e,au st.h d=some e/\a∈fp d/\(d=id->a∈r):=by
  rintro a ⟨d,m,e,f,c⟩;by_cases g:d=id
  ·subst g;rw[lQ] at c;exact⟨d,m,G,v,f4 a c,λ_=>c⟩
  rw[rI,ah (λK=>g K.symm)] at f;rw[jW g] at c;exact⟨d,m,e,f,c,λK=>absurd K g⟩
 have E:∀a∈x,a<w.heap.size/\¬∃d∈s,∃e,au ((id,(⟨n,z⟩:aH))::del [id] st.h) d=some e/\a∈jt fp id r d:=λa c=>by
  have N:a∈fp id:=L.mem_iff.2 (by simp[c]);refine⟨(d5 a N).2.2.1,λb=>?_⟩;obtain⟨d,_,e,f,p,D⟩:=Q a b;by_cases g:d=id
  ·exact ds.2.2 a (D g) a c rfl
  exact M.dis d id e G f v g a p N
 have ab:∀a∈x,w'.heap[a]?=w.heap[a]?:=λa c=>l.heap a (E a c).1 (λd m e f b=>(E a c).2 ⟨d,m,e,f,b⟩);have ex:∀F a,bj I C.B F a->bT w w' a:=λF a T=>.of_heap (l.heap a (M.ib a (mq T)) (λd m e f b=>by
  obtain⟨d,_,e,f,p,_⟩:=Q a ⟨d,m,e,f,b⟩;exact M.notM f a p F T))
 obtain⟨_,a3,f8,f9⟩:=l.tree id _ V;obtain⟨y,hc,_,d2,_⟩:=l.keep _ o ⟨n,z⟩ (by rw[rI,ai rfl]);simp only[lQ] at d2;rw[d2] at a3;have ci:∀a,bT w w' a->qE w w' bB n.size a:=λa b=>⟨λq _=>(b.1 q).1,λq=>(b.1 q).2,λq=>by rw[(b.1 q).1],b.2⟩;obtain⟨gt,co,f5,_,f7,_,av,_,f6⟩:=em w' (bj I' C.B) P X (J id) u (λF a c=>by cases F;exact l.i a c;exact c.imp (l.i a) (λb=>b)) (by
   rintro a (⟨F,T⟩|c|⟨a0,f2⟩)
   ·exact ci a (ex F a T)
   ·exact ci a (.of_heap (ab a c))
   cases f2) a3 (λ_ _=>rfl)
  (λa a0 c2=>by
   have c:a∈x:=by
    rcases el a a0 c2 with⟨_,b,_⟩|b
    ·cases b
    exact b
   exact(ek a a0 c2).1.eE (.of_heap (ab a c))) d1
 obtain rfl:=f7 rfl (.inr rfl);have Z:∀a∈co,a∈J id\/a∈x:=λa c=>eN.1 (av.mem_iff.1 c);have ap:∀k e,au H k=some e->∀a∈J k,a∉x:=λk e o a c d0=>by
  rcases((l.tree k e o).2.2.2 a c).2.2 with b|b
  ·exact absurd (E a d0).1 U
  exact(E a d0).2 b
 have an:∀k y,au ((id,(⟨G.1,u⟩:aH))::H) k=some y->(k=id/\y=⟨G.1,u⟩)\/(k≠id/\au H k=some y):=λk y o=>by
  rw[b1] at o;split at o
  ·rename_i g;exact .inl ⟨g.symm,(ee o).symm⟩
  rename_i g;exact .inr ⟨λK=>g K.symm,o⟩
 have am:∀a,(w.heap.size<=a\/∃d∈s,∃e,au ((id,(⟨n,z⟩:aH))::del [id] st.h) d=some e/\a∈jt fp id r d)->w.heap.size<=a\/∃d∈s,∃e,au st.h d=some e/\a∈fp d:=λa b=>b.imp (λb=>b) (λb=>by
  obtain⟨d,m,e,f,p,_⟩:=Q a b;exact⟨d,m,e,f,p⟩)
 refine⟨jt W id (rt id),jt J id co,⟨l.size,l.os,l.tape,l.output,?_,l.evo,l.i,?_,?_,?_,?_,?_⟩,λk o=>jW o⟩
 ·intro a c fz;refine l.heap a c (λd m e f b=>?_);obtain⟨d,m,e,f,p,_⟩:=Q a ⟨d,m,e,f,b⟩;exact fz d m e f p
 ·intro a c;exact(l.i2 a c).imp (λb=>b) (λb=>⟨b.1,am a b.2⟩)
 ·intro k y o;rcases an k y o with⟨rfl,rfl⟩|⟨p,D⟩
  ·rw[lQ,lQ];refine⟨.inl cv,f5,?_,λa c=>?_⟩
   ·rw[av.nodup_iff,iq];exact⟨f8,ds.2.1,λd7 fn a c g=>ap k _ V d7 fn (g▸c)⟩
   rcases Z a c with c|c
   ·obtain⟨a4,bd,bl⟩:=f9 a c;exact⟨a4,bd,am a bl⟩
   have N:a∈fp k:=L.mem_iff.2 (by simp[c]);refine⟨λm=>?_,he (E a c).1 l.size,.inr ⟨k,cv,G,v,N⟩⟩;rcases l.i2 a m with b|⟨_,b|b⟩
   ·exact(d5 a N).1 b
   ·exact absurd (E a c).1 U
   exact(E a c).2 b
  rw[jW p,jW p];obtain⟨ge,a4,bd,bl⟩:=l.tree k y D;refine⟨ge.imp (λb=>b) (λb=>?_),a4,bd,λa c=>?_⟩
  ·have b:au ((id,(⟨n,z⟩:aH))::del [id] st.h) k=none:=b;rw[rI,ah (λg=>p g.symm)] at b;exact b
  obtain⟨v1,fc,bs⟩:=bl a c;exact⟨v1,fc,am a bs⟩
 ·intro d q gf gi m fT S a c;rcases an d gf m with⟨rfl,rfl⟩|⟨p,D⟩<;>rcases an q gi fT with⟨rfl,rfl⟩|⟨cs,Y⟩
  ·exact absurd rfl S
  ·rw[lQ] at c;rw[jW cs];rcases Z a c with c|c
   ·exact l.dis d q _ _ V Y S a c
   exactλb=>ap q _ Y a b c
  ·rw[jW p] at c;rw[lQ];intro b;rcases Z a b with b|b
   ·exact l.dis d q _ _ D V S a c b
   exact ap d _ D a c b
  rw[jW p] at c;rw[jW cs];exact l.dis d q _ _ D Y S a c
 ·intro g t e f;rcases dx.1 t with rfl|t
  ·rw[v] at f;cases f;exact⟨⟨G.1,u⟩,by rw[b1,ai rfl],rfl,lQ,⟨_,dl.ty⟩,f6⟩
  by_cases al:g.1=id
  ·rw[al,v] at f;cases f;refine⟨⟨G.1,u⟩,by rw[b1,ai al.symm],rfl,by rw[al];exact lQ,⟨G.1,by rw[ad g t];cases G.1<;>rfl⟩,λd3 _ _ _ o=>?_⟩;rw[ad g t,Cx] at o;cases o
  obtain⟨v1,fc,bs,v4,gl,DQ⟩:=l.keep g t e (by rw[rI,ah (λb=>al b.symm)];exact f);rw[jW al] at v4 DQ;exact⟨v1,by rw[b1,ah (λb=>al b.symm)];exact fc,bs,by rw[jW al];exact v4,gl,DQ⟩
 intro g t e f d3 hv hs hi go gv R f1 f0 c1 f3;rcases dx.1 t with rfl|t
 ·rw[v] at f;cases f;refine⟨⟨G.1,u⟩,by rw[b1,ai rfl],tm R d1 c1,λce fs=>?_⟩;obtain⟨ax,a3⟩:=eq d3 _ _ _ _ _ R (by exact f1) c1 f0 f3 ce fs;rw[lQ];exact⟨av.mem_iff.2 (lw _ ax),.of_heap (ab ce ax)⟩
 rw[ad g t,tk] at R;cases R
def dA.sub {s:Oper} {r:List ao} {d W:Array _} (c2:s.op=.call {callee:=.value m,args:=d,argTypes:=W}) (d8:aV st.g m=.dv l r) (bs:s.dst=some b) (bB:C.ok b) (bd:∀(V:adW) (w:World),(callFunc l V).run E.P w=.ok (.enter l V) w) {a:List gh} (a4:qD E l a S) (d3:nZ 0 a=none) (ab:∀j,C.I0 j\/C.B j->j<C.w0.heap.size/\¬C.F0 j) (ad:j2 E C.I0 C.w0) {id:Nat} (q:au st.h id=some G) {p:List a5} {v:n.den} (O:df G.1 G.2 (T::p) n v) {H:ad1} (d4:sa (d.toList.map (aV st.g)++r) H=some (id,T::p)) (a0:L=ll id (d.toList.map (aV st.g)++r) H) (ap:nl ((id,⟨n,v⟩)::del [id] st.h) (eM L a) L a) (A:mb b ⟨[],(id,⟨n,v⟩)::del [id] st.h⟩ L a S=true) (an:id∈eM L a) (am:id∈lc L a) {y':n.den} {z:G.1.den} (cs:au (iI L a++hO b (hq S) 0 S) id=some ⟨n,y'⟩) (d2:dK G.1 G.2 (T::p) n y' z) (o:u ⟨(b,uk b S)::kill (eM L a) ((id,T::p)::vR (lc L a)) st.g,((id,⟨G.1,z⟩)::(iI L a++hO b (hq S) 0 S))++del (eM L a) st.h⟩):dA E C s st u:=by
 rintro c w ⟨I,rt,fp,e⟩ next eq c1
 obtain⟨i,d7,Z⟩:∃i:adW,c.eval m=.func (.func l) #[] i/\hl (bL (bj I C.B) w st.h rt fp) r i.toList:=by
  have F:=e.aV m;rw[d8] at F;generalize ft:c.eval m=f2 at F;cases F with|dv co ci=>
  exact⟨_,rfl,Ai (by simpa using co) (λU c j D x=>ci U c j D (by simpa using x))⟩
 have a3:hl (bL (bj I C.B) w st.h rt fp) (d.toList.map (aV st.g)++r) (d.toList.map c.eval++i.toList):=Em (En (λm=>e.aV m) _) Z;obtain⟨ed,ek,fz⟩:=e.tree id G q;obtain⟨em,ex,_,_,J,_⟩:=Ck (T::p) (loc:=none) ed (λ_ _ o=>by cases o) ek (λ_ _ o=>by cases o) (e.notM q) O;obtain⟨Y,fT,ax,d9,dl⟩:=l5.XN e q O J;have M:=e.split q ax d9;have N:=Qb (y:=v) (f:=Y) e q J a3 d4;rw[<-a0] at N;have bl:=M.call N a4 ap A (λ_ _=>by rw[d3];trivial) (M.glob ab ad);have d1:(execOp c.eval s).run E.P w=.ok (.enter l (d.toList.map c.eval++i.toList).toArray) w:=(by have al:d.map c.eval=(d.toList.map c.eval).toArray:=(by rw[<-Array.toList_map]);have X:(d.toList.map c.eval++i.toList).toArray=(d.toList.map c.eval).toArray++i:=ac;rw[X];simp only[execOp,c2,resolve,al,Sem.run_bind,d7,Deferred.ofValue,Sem.run_pure,Result.andThen_ok,invoke,Array.empty_append,Array.append_empty];exact bd _ _);unfold Oper.wp;rw[d1];show Calls E.P l _ w _;refine bl.mono ?_;rintro k w' ⟨I',f0,fn,el,rfl,d5,ds⟩;show next (c.put s.dst (o7 el)) w'
 rw[bs];obtain⟨f1,fs,d6,d0⟩:=dl d5 an cs (de.2 ⟨id,am,rfl⟩) (λk ce=>by obtain⟨U,_,rfl⟩:=de.1 ce;rfl) d2;simp only[mb,bp,fd] at A;have cv:=h9.ok A.1.2;refine c1 _ _ _ o rfl ⟨I',_,_,(e.bU d6).put bB (av:=uk b S) (ds _ _ _ (λt R=>?_))⟩;have D:=ND cv t R;have x:=A.2 t R;have Q:t.1≠id:=λk=>(by rw[k,rI,ai rfl] at x;cases x);have K:au ((id,(⟨G.1,z⟩:aH))::(iI L a++hO b (hq S) 0 S)) t.1=some t.2:=(by rw[b1,ah (λk=>Q k.symm)];exact D);refine⟨by rw[jo,K];rfl,?_⟩;simp only[dI,K];exact d0 _ Q
end
end
section
def iw:Nat->List gh->List (Nat×ao)
 |_,[]=>[]
 |k,.v b::a=>(k,.val b.1 b.2)::iw (k+1) a
 |k,.m _ _::a=>(k,.ref k [])::iw (k+1) a
 |k,.o _::a=>(k,.ref k [])::iw (k+1) a
 |k,.n::a=>(k,.cv (.slice none 0 0))::iw (k+1) a
 |k,.w _ _ e d _::a=>(k,.view k [] e d)::iw (k+1) a
 |k,.s _ _::a=>iw (k+1) a
 |k,.c f g::a=>(k,.dv f (g.map λb=>.val b.1 b.2))::iw (k+1) a
def iT:Nat->List gh->List (Nat×aH)
 |_,[]=>[]
 |k,.v _::a=>iT (k+1) a
 |k,.m b _::a=>(k,b)::iT (k+1) a
 |k,.o b::a=>(k,b)::iT (k+1) a
 |k,.w e d _ _ _::a=>(k,⟨.osl e,d⟩)::iT (k+1) a
 |k,.c _ _::a=>iT (k+1) a
 |k,.n::a=>iT (k+1) a
 |k,.s _ _::a=>iT (k+1) a
def gx:Nat->List gh->ad4
 |_,[]=>[]
 |k,.m _ _::a=>k::gx (k+1) a
 |k,.w _ _ _ _ _::a=>k::gx (k+1) a
 |k,_::a=>gx (k+1) a
def sG (a:dD):Option cU->Prop
 |none=>True
 |some (c,g,d)=>c∈a.pin/\(∀h∈d,h∈a.pin)/\∃b e f,a.vs c=.pointer (some ⟨b,e,none⟩)/\b<a.w0.heap.size/\¬a.F0 b/\a.w0.cell? ⟨b,e,none⟩=some (.func (.func g) #[] f)/\f.toList=d.map a.vs
def mA:Option cU->ad4
 |none=>[]
 |some (a,_,b)=>a::b
def qQ (j:Program) (e:aQ) (a:aH):ResultVar->ad4->Prop
 |.tmp m,c=>match gt e.g m with
  |.val i n=>(⟨i,n⟩:aH)=a/\c=[]
  |.cv f=>hG a.1 f.cells.toList=some a.2/\bO a.1 f.cells.toList=f/\c=[]
  |.ref id d=>c=[id]/\∃b,au e.h id=some b/\df b.1 b.2 d a.1 a.2
  |_=>False
 |.cell l k,c=>dP j a.1 k/\match gt e.g l with
  |.ref id d=>c=[id]/\∃b i,au e.h id=some b/\dR b.1 d=some (.optr i)/\df b.1 b.2 (d++[.deref]) a.1 a.2
  |_=>False
def sE (b:Program) (d:aQ):List ResultVar->List aH->ad4->Prop
 |[],[],a=>a=[]
 |r::f,e::g,a=>e.1.eD=true/\∃i1 c,a=i1++c/\qQ b d e r i1/\sE b d f g c
 |_,_,_=>False
def om (a:aQ):Nat->List gh->Prop
 |_,[]=>True
 |k,.m c l::b=>(gt a.g k=.ref k []/\au a.h k=some ⟨c.1,l⟩/\c.1.eD=true/\qB c.1=true)/\om a (k+1) b
 |k,.w i j e d f::b=>(gt a.g k=.view k [] e d/\au a.h k=some ⟨.osl i,f⟩/\(i.eD=true/\e<d)/\f.length=j.length)/\om a (k+1) b
 |k,_::b=>om a (k+1) b
def Ia (e:Program) (a:List gh) (g:List ResultVar) (f:List aH) (b:Exit) (d:aQ):Prop:=
 (b=.normal\/b=.ret)/\∃c,sE e d g f c/\h9 (gx 0 a++c)=true/\om d 0 a
section
variable {E:eh}
def QX {j:Nat->Prop} {a:adY} (g:hl (wM j B v) S a):bL (bj j B) v e z A (.dv b (S.map λd=>.val d.1 d.2)) (.func (.func b) #[] a.toArray):=by
 have l:=IC g;refine .dv (by simpa using l.symm) (λf p i c h=>?_);have k:∀{S:List aH} {a:adY} {f:Nat} {d:aH} {i:Value},hl (wM j B v) S a->S[f]?=some d->a[f]?=some i->wM j B v d i:=by
  intro S
  induction S with
  |nil=>intro a f d i _ c;simp at c
  |cons s S o=>
   intro a f d i g c h;cases a with
   |nil=>exact g.elim
   |cons r a=>
    cases f with
    |zero=>simp only[j4,bS] at c h;subst c h;exact g.1
    |succ f=>exact o g.2 (by simpa using c) (by simpa using h)
 rw[fB] at c;obtain⟨d,n,rfl⟩:=er.1 c;obtain⟨q,rfl,m⟩:=k g n (by simpa using h);exact .val m
def IU {r q:Nat->Prop} {w:World}:∀{k:Nat} {d:List gh} {G:adY} {z:adT},kZ (wF r q w) d G z->∃(h:Nat->adY) (f:Nat->ad4),(∀id b,au (iT k d) id=some b->k<=id/\(∃x,z[id-k]?=some x/\f id=x)/\aT (bj r q) w b.1 (h id) b.2 (f id))/\(∀a,gt (iw k d) (k+a)=.dead\/∃v,G[a]?=some v/\bL (bj r q) w (iT k d) h f (gt (iw k d) (k+a)) v)/\(∀a,a<k->gt (iw k d) a=.dead)
 |k,[],G,z,p=>⟨λ_=>[],λ_=>[],(λid b p=>by cases p),λa=>.inl rfl,λa _=>rfl⟩
 |k,l::d,[],z,p=>p.elim
 |k,l::d,v::G,[],p=>p.elim
 |k,l::d,v::G,x::z,p=>by
  obtain⟨C,ab⟩:=p;obtain⟨h,f,i1,M,D⟩:=IU (k:=k+1) ab;have L:∀id b,au (iT (k+1) d) id=some b->k<=id/\(∃y,(x::z)[id-k]?=some y/\f id=y)/\aT (bj r q) w b.1 (h id) b.2 (f id):=λid b u=>(by obtain⟨ax,⟨y,e,R⟩,ap⟩:=i1 id b u;exact⟨U,⟨y,by rw[(U:id-k=(id-(k+1))+1),py];exact e,R⟩,ap⟩);have Q:∀(b:aH) (t:adY) (N:ao),(∀(B:List (Nat×aH)) (F:Nat->adY) (J:Nat->ad4),au B k=some b->F k=t->bL (bj r q) w B F J N v)->aT (bj r q) w b.1 t b.2 x->iT k (l::d)=(k,b)::iT (k+1) d->iw k (l::d)=(k,N)::iw (k+1) d->_:=λb t N g j al V=>by
   refine(⟨λK=>if K=k then t else h K,λK=>if K=k then x else f K,?_,?_,?_⟩:∃(h:Nat->adY) (f:Nat->ad4),(∀id b,au (iT k (l::d)) id=some b->k<=id/\(∃y,(x::z)[id-k]?=some y/\f id=y)/\aT (bj r q) w b.1 (h id) b.2 (f id))/\(∀a,gt (iw k (l::d)) (k+a)=.dead\/∃i,(v::G)[a]?=some i/\bL (bj r q) w (iT k (l::d)) h f (gt (iw k (l::d)) (k+a)) i)/\(∀a,a<k->gt (iw k (l::d)) a=.dead))
   ·intro id S u;rw[al,b1] at u;split at u
    ·rename_i O;subst O;obtain rfl:=ee u;refine⟨a2 _,⟨x,ac,ac⟩,by simp only[if_true];exact j⟩
    rename_i O;obtain⟨ax,e,R⟩:=L id S u;have I:¬id=k:=λp=>O p.symm;exact⟨ax,by simp only[ah I];exact e,by simp only[ah I];exact R⟩
   ·intro a;rw[V,hJ];cases a with
    |zero=>
     right;refine⟨v,rfl,?_⟩;rw[ai U];exact g _ _ _ (by rw[al,b1,ai rfl]) (by simp only[if_true])
    |succ a=>
     rw[ah U,(U:k+(a+1)=k+1+a)];refine(M a).imp id ?_;rintro⟨i,ax,e⟩;refine⟨i,by simpa using ax,?_⟩;refine e.rO (λm H ad=>⟨ad,bT.refl w H⟩) (λid _ S u=>?_);obtain⟨bd,_,av⟩:=i1 id S u;have I:¬id=k:=U;have Z:¬k=id:=U;exact⟨by rw[al,b1,ah Z];exact u,by simp only[ah I],by simp only[ah I],av,λH _=>bT.refl w H⟩
   intro a A;rw[V,hJ,ah U];exact D a U
  cases l with
  |v b=>
   obtain⟨rfl,t,g,j⟩:=C;refine⟨h,f,L,λa=>?_,λa A=>?_⟩
   ·show gt ((k,_)::_) _=_\/_;rw[hJ];cases a with
    |zero=>
     right;refine⟨v,rfl,?_⟩;show bL _ _ _ _ _ (gt ((k,_)::_) _) _;rw[hJ,ai U,g];exact .val j
    |succ a=>
     rw[ah U,(U:k+(a+1)=k+1+a)];refine(M a).imp id ?_;rintro⟨i,ax,e⟩;refine⟨i,by simpa using ax,?_⟩;show bL _ _ _ _ _ (gt ((k,_)::_) _) _;rw[hJ,ah U];exact e
   show gt ((k,_)::_) _=_;rw[hJ,ah U];exact D a U
  |n=>
   obtain⟨rfl,g⟩:=C;refine⟨h,f,L,λa=>?_,λa A=>?_⟩
   ·show gt ((k,_)::_) _=_\/_;rw[hJ];cases a with
    |zero=>
     right;refine⟨v,rfl,?_⟩;show bL _ _ _ _ _ (gt ((k,_)::_) _) _;rw[hJ,ai U,g];exact .cv _
    |succ a=>
     rw[ah U,(U:k+(a+1)=k+1+a)];refine(M a).imp id ?_;rintro⟨i,ax,e⟩;refine⟨i,by simpa using ax,?_⟩;show bL _ _ _ _ _ (gt ((k,_)::_) _) _;rw[hJ,ah U];exact e
   show gt ((k,_)::_) _=_;rw[hJ,ah U];exact D a U
  |s a0 a3=>
   refine⟨h,f,L,λa=>?_,λa A=>D a U⟩;cases a with
   |zero=>exact .inl (D k U)
   |succ a=>
    have A:=M a;rw[(U:k+1+a=k+(a+1))] at A;refine A.imp id ?_;rintro⟨i,ax,e⟩;exact⟨i,by simpa using ax,e⟩
  |c n bl=>
   obtain⟨rfl,bs,g,j⟩:=C;refine⟨h,f,L,λa=>?_,λa A=>?_⟩
   ·show gt ((k,_)::_) _=_\/_;rw[hJ];cases a with
    |zero=>
     right;refine⟨v,rfl,?_⟩;show bL _ _ _ _ _ (gt ((k,_)::_) _) _;rw[hJ,ai U,g];exact QX j
    |succ a=>
     rw[ah U,(U:k+(a+1)=k+1+a)];refine(M a).imp id ?_;rintro⟨i,ax,e⟩;refine⟨i,by simpa using ax,?_⟩;show bL _ _ _ _ _ (gt ((k,_)::_) _) _;rw[hJ,ah U];exact e
   show gt ((k,_)::_) _=_;rw[hJ,ah U];exact D a U
  |m b bB=>obtain⟨t,g,j⟩:=C;exact Q b t (.ref k []) (λB F J ax e=>by subst g;exact .ref (loc:=none) ax (by rw[e];exact aW.here)) j rfl rfl
  |o b=>obtain⟨t,g,j⟩:=C;exact Q b t (.ref k []) (λB F J ax e=>by subst g;exact .ref (loc:=none) ax (by rw[e];exact aW.here)) j rfl rfl
  |w Y X E P ce=>
   obtain⟨H,o,T,g,⟨a4,am,an⟩,j⟩:=C;refine Q ⟨.osl Y,X⟩ _ (.view k [] E P) (λB F J ax e=>?_) j rfl rfl;have W:bL (bj r q) w B F J (.view k [] E P) (.slice (some ⟨H,if T=E then o else o+E*Y.size,none⟩) (P-E) (T-E)):=.view (loc:=none) (len:=X.length) ax (by rw[e];exact aW.here) U am an;rw[ah U] at W;rw[g];exact W
def UU {f:adT} (h:f.flatten.Nodup):(∀(a:Nat) b,f[a]?=some b->b.Nodup)/\∀(a c:Nat) b g,f[a]?=some b->f[c]?=some g->a≠c->∀e∈b,e∉g:=by
 induction f with
 |nil=>exact⟨λa b h=>by simp at h,λa c b g h=>by simp at h⟩
 |cons r f q=>
  simp only[j3,iq] at h;obtain⟨m,n,l⟩:=h;obtain⟨i1,p⟩:=q n;refine⟨λa b d=>?_,λa c b g d i o e j k=>?_⟩
  ·cases a with
   |zero=>simp only[j4,bS] at d;subst d;exact m
   |succ a=>exact i1 a b (by simpa using d)
  cases a with
  |zero=>
   cases c with
   |zero=>exact o rfl
   |succ c=>
    simp only[j4,bS] at d;subst d;exact l e j e (je.2 ⟨g,lx (by simpa using i),k⟩) rfl
  |succ a=>
   cases c with
   |zero=>
    simp only[j4,bS] at i;subst i;exact l e k e (je.2 ⟨b,lx (by simpa using d),j⟩) rfl
   |succ c=>exact p a c b g (by simpa using d) (by simpa using i) U e j k
def zg (b:adW):ResultVar->Sem Value
 |.tmp a=>Pure.pure (b.getD a undef)
 |.cell c a=>do loadVar a (<-asAddr (b.getD c undef))
def Y2 {f:Func} (h:f.results=M.toArray) (c:adW) (a:World) {d:adY} (i:(M.mapM (zg c)).run s a=.ok d a):(results f c).run s a=.ok (o7 d) a:=by
 unfold results;simp only[Sem.run_bind,h];rw[Array.mapM_eq_mapM_toList,Sem.run_map];have j:∀b:ResultVar->Sem Value,(∀e,b e=zg c e)->(M.mapM b).run s a=.ok d a:=λb g=>(by rw[show b=zg c from funext g];exact i);rw[j _ (λe=>by cases e<;>rfl)];simp only[Result.andThen_ok,Sem.run_pure];congr 1
 match d with
 |[]=>rfl
 |[r]=>rfl
 |r::l::k=>simp[o7]
def qQ.rep {L:dD} {e:adW} {H:Nat->Prop} (t:bC L i e v H z A) (J:G.1.eD=true) {d:ResultVar} (a:qQ s i G d f):∃r M,(zg e d).run s v=.ok r v/\z5 H v G r M/\(∃ad,(f.map A).flatten.Perm (M++ad))/\∀id∈f,∃G,au i.h id=some G:=by
 have N:∀(id:Nat) (g:aH) (n:List a5),au i.h id=some g->df g.1 g.2 n G.1 G.2->∃q k j o,aW v g.1 none (z id) n G.1 q k/\aT (bj H L.B) v G.1 k G.2 j/\oj v q k G.1.size/\(A id).Perm (j++o):=(by intro id g n c u;obtain⟨ax,K,ap⟩:=t.tree id _ c;obtain⟨q,k,j,o,D,p,F,E,_⟩:=Ck n (τ':=G.1) (y:=G.2) ax (loc:=none) (λ_ _ a=>by cases a) K (λ_ _ a=>by cases a) (t.notM c) u;exact⟨q,k,j,o,D,p,F,E⟩);cases d with
 |tmp d=>
  have b:=t.tmp d;simp only[qQ] at a;split at a
  ·rename_i an a0 l;rw[l] at b;obtain⟨rfl,rfl⟩:=a;generalize m:e.getD d undef=r at b;cases b with|val am=>
   exact⟨_,[],by show(Pure.pure (e.getD d undef):Sem Value).run s v=_;rw[m];rfl,⟨_,rfl,am.eD J⟩,⟨[],ac⟩,ac⟩
  ·rename_i r l;rw[l] at b;obtain⟨ax,K,rfl⟩:=a;generalize m:e.getD d undef=av at b;cases b;exact⟨_,[],by show(Pure.pure (e.getD d undef):Sem Value).run s v=_;rw[m];rfl,⟨_,K.symm,oK ax⟩,⟨[],ac⟩,ac⟩
  ·rename_i id n l;rw[l] at b;obtain⟨rfl,g,c,u⟩:=a;generalize m:e.getD d undef=r at b;cases b with|ref C x=>
   rw[c] at C;cases C;obtain⟨q,k,j,o,D,p,F,E⟩:=N id g n c u;obtain⟨rfl,rfl,rfl⟩:=x.iF D;refine⟨_,j,by show(Pure.pure (e.getD d undef):Sem Value).run s v=_;rw[m];rfl,⟨_,rfl,p.eD J⟩,⟨o,by simpa using E⟩,λZ w=>?_⟩;rw[eI] at w;subst w;exact⟨_,c⟩
  exact a.elim
 |cell I O=>
  have b:=t.tmp I;simp only[qQ] at a;obtain⟨V,a⟩:=a;split at a
  ·rename_i id n l;rw[l] at b;obtain⟨rfl,g,an,c,Y,u⟩:=a;generalize m:e.getD I undef=r at b;cases b with|ref C x=>
   rw[c] at C;cases C;have:=x.ty;rw[Y] at this;cases this;obtain⟨P,ab,S,rfl,Q,R⟩:=nT (t.tree id _ c).1 x;have X:=x.append (aW.E8 Q R);obtain⟨q,k,j,o,D,p,F,E⟩:=N id g _ c u;obtain⟨al,T,U⟩:=X.iF D;subst T;subst U;subst al;have W:=(F P ab rfl).1;refine⟨bO G.1 S,j,?_,⟨_,rfl,p.eD J⟩,⟨o,by simpa using E⟩,λZ w=>?_⟩
   ·show(do loadVar O (<-asAddr (e.getD I undef)):Sem Value).run s v=_;rw[m];simp only[bO,List.headD,asAddr,Sem.run_bind,Sem.run_pure,Result.andThen_ok];exact NW V W p.len
   rw[eI] at w;subst w;exact⟨_,c⟩
  exact a.elim
def sE.rep {k:Program} {t:dD} {g:aQ} {s:adW} {f w0:World} {j:Nat->Prop} {H:Nat->adY} {m:Nat->ad4} (n:bC t g s f j H m):∀{e:List ResultVar} {p:List aH} {a:ad4},sE k g e p a->∃vs d,(e.mapM (zg s)).run k f=.ok vs f/\kZ (z5 j f) p vs d/\(∃F,(a.map m).flatten.Perm (d.flatten++F))/\∀id∈a,∃i,au g.h id=some i
 |[],[],a,b=>by obtain rfl:a=[]:=b;exact⟨[],[],rfl,trivial,⟨[],.refl _⟩,ac⟩
 |[],i::I,a,b=>b.elim
 |r::e,[],a,b=>b.elim
 |r::e,i::I,a,b=>by
  obtain⟨E,i1,K,rfl,C,D⟩:=b;obtain⟨J,l,u,v,⟨G,w⟩,x⟩:=C.rep n E;obtain⟨vs,d,y,z,⟨q,A⟩,B⟩:=sE.rep (w0:=w0) n D;refine⟨J::vs,l::d,?_,⟨v,z⟩,⟨G++q,?_⟩,λo c=>?_⟩
  ·simp only[List.mapM_cons,Sem.run_bind,u,Sem.run_pure,Result.andThen_ok,y]
  ·simp only[fN,qL,j3];refine(w.append A).trans ?_;rw[mG,mG];refine List.Perm.append_left l ?_;rw[<-mG,<-mG];exact List.Perm.append_right q List.perm_append_comm
  rcases eN.1 c with c|c
  ·exact x o c
  exact B o c
def IV:∀{k:Nat} {args:List gh},∀b∈gx k args,k<=b
 |k,[],b,a=>by cases a
 |k,f::args,b,a=>by
  have d:=IV (k:=k+1) (args:=args);cases f with
  |m e q=>
   rcases dx.1 a with rfl|a
   ·exact a2 _
   have:=d b a;omega
  |w t p j h r=>
   rcases dx.1 a with rfl|a
   ·exact a2 _
   have:=d b a;omega
  |v e=>have:=d b a;omega
  |o e=>have:=d b a;omega
  |c n l=>have:=d b a;omega
  |n=>have:=d b a;omega
  |s g i=>have:=d b a;omega
def om.rep {S:dD} {C:aQ} {F:adW} {w:World} {G:Nat->Prop} {M:Nat->adY} {u:Nat->ad4} (x:bC S C F w G M u) {B:Nat->Prop}:∀{k:Nat} {g:List gh} {vs:adY},om C k g->vs.length=g.length->(∀e,e∈gx k g->∀v,vs[e-k]?=some v->F.getD e undef=v)->∃d,kZ (wG G B w) g vs d/\d.flatten=((gx k g).map u).flatten/\∀id∈gx k g,k<=id/\∃t,au C.h id=some t
 |k,[],vs,i,y,z=>by cases vs with
  |nil=>exact⟨[],trivial,rfl,by simp[gx]⟩
  |cons=>cases y
 |k,H::g,[],i,y,z=>by cases y
 |k,H::g,v::vs,i,y,z=>by
  have r:om C (k+1) g->(∀e,e∈gx (k+1) g->e∈gx k (H::g))->∃d,kZ (wG G B w) g vs d/\d.flatten=((gx (k+1) g).map u).flatten/\∀id∈gx (k+1) g,k+1<=id/\∃t,au C.h id=some t:=λi Y=>by
   have W:=IV (k:=k+1) (args:=g);exact om.rep x i (by simpa using y) (λe f an Z=>z e (Y e f) an (by
    have:=W e f;rw[(U:e-k=(e-(k+1))+1),py];exact Z))
  cases H with
  |v t=>
   obtain⟨d,j,l,b⟩:=r i (λe f=>f);exact⟨[]::d,⟨rfl,j⟩,by simpa[gx] using l,λid a=>⟨by have:=(b id a).1;omega,(b id a).2⟩⟩
  |o t=>
   obtain⟨d,j,l,b⟩:=r i (λe f=>f);exact⟨[]::d,⟨rfl,j⟩,by simpa[gx] using l,λid a=>⟨by have:=(b id a).1;omega,(b id a).2⟩⟩
  |n=>
   obtain⟨d,j,l,b⟩:=r i (λe f=>f);exact⟨[]::d,⟨rfl,j⟩,by simpa[gx] using l,λid a=>⟨by have:=(b id a).1;omega,(b id a).2⟩⟩
  |s bd bs=>
   obtain⟨d,j,l,b⟩:=r i (λe f=>f);exact⟨[]::d,⟨rfl,j⟩,by simpa[gx] using l,λid a=>⟨by have:=(b id a).1;omega,(b id a).2⟩⟩
  |c n c1=>
   obtain⟨d,j,l,b⟩:=r i (λe f=>f);exact⟨[]::d,⟨rfl,j⟩,by simpa[gx] using l,λid a=>⟨by have:=(b id a).1;omega,(b id a).2⟩⟩
  |m t c2=>
   obtain⟨⟨K,q,L,ab⟩,i⟩:=i;obtain⟨d,j,l,b⟩:=r i (λe f=>fk _ f);have p:=x.tmp k;rw[K] at p;have J:F.getD k undef=v:=z k (by simp[gx]) v ac;rw[J] at p;obtain⟨E,_⟩:=x.tree k _ q;refine⟨u k::d,⟨?_,j⟩,by simp only[gx,fr,j3,l],λid a=>?_⟩
   ·cases p with|ref A I=>
    rw[q] at A;cases A;obtain⟨rfl,rfl,rfl⟩:=aW.e1.1 I;exact⟨M k,rfl,E.eD L⟩
   rcases dx.1 a with rfl|a
   ·exact⟨a2 _,_,q⟩
   exact⟨by have:=(b id a).1;omega,(b id a).2⟩
  |w R ap bB bl av=>
   obtain⟨⟨K,q,⟨L,ab⟩,ad⟩,i⟩:=i;obtain⟨d,j,l,b⟩:=r i (λe f=>fk _ f);have p:=x.tmp k;rw[K] at p;have J:F.getD k undef=v:=z k (by simp[gx]) v ac;rw[J] at p;obtain⟨E,_⟩:=x.tree k _ q;refine⟨u k::d,⟨?_,j⟩,by simp only[gx,fr,j3,l],λid a=>?_⟩
   ·cases p with
    |kR=>omega
    |view A I ax ci co=>
    rename_i cv dl ce N P am O;rw[q] at A;cases A;obtain⟨al,a4,T⟩:=aW.e1.1 I;simp only[aj.osl.injEq] at al;subst al;have D:M k=[.slice (some ⟨N,P,none⟩) am O]:=T;have X:=E;obtain⟨a0,a3,Q,cs⟩:=X;rw[Q] at D;simp only[gu,Value.slice.injEq,and_true] at D;refine⟨N,P,O,by rw[ah U],U,?_⟩;have:=aT.eD (τ:=.osl R) (B':=B) L E;rw[Q,D.1,D.2.2] at this;have V:List.length (α:=R.den) av=ap.length:=ad;rw[<-V];exact this
   rcases dx.1 a with rfl|a
   ·exact⟨a2 _,_,q⟩
   exact⟨by have:=(b id a).1;omega,(b id a).2⟩
def qD.U7 {o:FuncId} {m:Func} {c:Code} {e:List gh} (d4:E.P.funcs[o]?=some m) (d:m.body=some c) (ed:m.results=M.toArray) (f5:e.length<=m.ntmps) (b:∀f:dD,f.n=m.ntmps->f.pin=gx 0 e++mA (nZ 0 e)->(∀a,f.I0 a\/f.B a->a<f.w0.heap.size/\¬f.F0 a)->sG f (nZ 0 e)->j2 E f.I0 f.w0->J E f c ⟨iw 0 e,iT 0 e⟩ (Ia E.P e M S)):qD E o e S:=by
 intro x y G l K ap ad d8 N a0 d5;obtain⟨el,f4⟩:=Eo ad;obtain⟨ci,Y,I,cv,f2⟩:=IU (k:=0) ad
 let f:dD:={I0:=y,B:=G,F0:=λa=>a∈K.flatten,w0:=x,n:=m.ntmps,pin:=gx 0 e++mA (nZ 0 e),vs:=λi=>l.getD i undef}
 have a4:∀i,(l.toArray++Array.replicate (m.ntmps-l.toArray.size) undef).getD i undef=l.getD i undef:=by
  intro i;rw[zK,iO];rcases bg i l.length with Q|Q
  ·rw[Array.getElem?_append,ai (by simpa using Q)];simp
  rw[Array.getElem?_append,ah (by simp;omega),hR Q,Array.getElem?_replicate];split<;>rfl
 obtain⟨em,eq⟩:=UU d8;have ds:bC f ⟨iw 0 e,iT 0 e⟩ (l.toArray++Array.replicate (m.ntmps-l.toArray.size) undef) x y ci Y:=by
  refine{n:=?_,i0:=λ_ b=>b,i1:=λ_ b=>.inl b,ib:=ap,tree:=?_,dis:=?_,tmp:=?_,frame:=λ_ _ _=>rfl,evo:=λ_ _=>.refl _ _,size:=a2 _,os:=rfl,tape:=rfl,output:=rfl,pin:=λi _=>a4 i}
  ·simp only[Array.size_append,qP,Array.size_replicate];show _=m.ntmps;omega
  ·intro id j v;obtain⟨_,⟨o,ax,t⟩,T⟩:=I id j v;rw[Nat.sub_zero] at ax;refine⟨T,by rw[t];exact em id o ax,λa d=>?_⟩;rw[t] at d;have q:a∈K.flatten:=je.2 ⟨o,lx ax,d⟩;obtain⟨C,U,fs⟩:=N a q;exact⟨C,U,fs,.inr q⟩
  ·intro bl s j f0 d6 u d7 a d am;obtain⟨_,⟨o,ax,t⟩,_⟩:=I bl j d6;obtain⟨_,⟨c1,C,U⟩,_⟩:=I s f0 u;rw[Nat.sub_zero] at ax C;rw[t] at d;rw[U] at am;exact eq bl s o c1 ax C d7 a d am
  intro i;show bL _ _ _ _ _ (gt (iw 0 e) i) _;rw[a4];rcases cv i with b|⟨w,L,z⟩
  ·rw[jg] at b;rw[b];exact .dead _
  rw[jg] at z;rw[iO,L];exact z
 have ek:sG f (nZ 0 e):=by
  cases p:nZ 0 e with
  |none=>trivial
  |some fn=>
   obtain⟨i,o,bB⟩:=fn;rw[p] at a0;obtain⟨_,_,a,ex,f1,V,D,W,fz,fT⟩:=a0;have av:f.pin=gx 0 e++mA (some (i,o,bB)):=(by rw[<-p]);refine⟨by rw[av];simp[mA],λs u=>by rw[av];simp[mA,u],a,ex,f1,V,D,W,fz,fT⟩
 refine calls_of_wp d4 d (wp_mono (b f rfl rfl (λa d=>⟨ap a d,λq=>d.elim (N a q).1 (N a q).2.1⟩) ek d5 _ x ⟨y,ci,Y,ds⟩ rfl) ?_);rintro f3 X F ⟨cs,⟨d3,bs,d9,R,q⟩,⟨H,f7,Z,g⟩,an⟩;obtain⟨f8,p,ft,V,⟨f6,D⟩,W⟩:=sE.rep (w0:=x) g d9;obtain⟨r,c2,ab,dl⟩:=om.rep g (B:=G) (vs:=l) q el (λs u w bd=>by
  rw[Nat.sub_zero] at bd;rw[g.pin s (nw _ u)];show l.getD s undef=w;rw[iO,bd];rfl)
 have R:=h9.ok R;have a3:∀id∈gx 0 e++bs,∃j,au cs.h id=some j:=λid O=>by
  rcases eN.1 O with b|b
  ·exact(dl id b).2
  exact W id b
 have A:=Gz g a3 R;rw[fN,qL,<-ab] at A;have A:(r.flatten++p.flatten).Nodup:=(by have:=(List.Perm.append_left r.flatten D).nodup_iff.1 A;rw[<-mG] at this;exact(iq.1 this).1);have d0:∀a∈r.flatten++p.flatten,∃id j,au cs.h id=some j/\a∈Z id:=λa d=>by
  have d:a∈((gx 0 e++bs).map Z).flatten:=by
   rw[fN,qL,<-ab];rcases eN.1 d with b|b
   ·exact nw _ b
   exact lw _ (D.mem_iff.2 (nw _ b))
  obtain⟨bB,L,z⟩:=je.1 d;obtain⟨id,O,rfl⟩:=de.1 L;obtain⟨j,v⟩:=a3 id O;exact⟨id,j,v,z⟩
 have ce:∃w,(results m X.tmps).run E.P F=.ok w F/\∃H r p co,Ending.returned w=.returned (o7 co)/\In y G x K e l S H r p co F:=
  ⟨_,Y2 ed X.tmps F ft,H,r,p,_,rfl,c2,V,A,(λa d=>by
   obtain⟨id,j,v,d1⟩:=d0 a d;obtain⟨ax,t,T,fp⟩:=(g.tree id j v).2.2 a d1;exact⟨ax,t,T,fp⟩),g.i0,(λa d=>by
   rcases g.i1 a d with b|b|b
   ·exact .inl b
   ·exact .inr ⟨g.ib a (.inl d),.inl b⟩
   exact .inr ⟨g.ib a (.inl d),.inr b⟩),g.size,g.os,g.tape,g.output,g.evo,λa d d2=>g.frame a d d2⟩
 rcases d3 with rfl|rfl
 ·exact⟨an,ce⟩
 exact⟨an,ce⟩
end
end
section
open Classical in
def pick {a:Type} (c:a->Prop):Option a:=if h:∃b,c b then some h.choose else none
theorem XJ {d:a->Prop} {c:a} (b:pick d=some c):d c:=by
 unfold pick at b;split at b
 ·grind
 grind
inductive nz where
 |v (τ:aj)
 |s (a:ao)
 |p (id:Nat) (a b:List a5)
 |w (id:Nat)
structure l4 where
 g:List (Nat×nz)
 h:List (Nat×aj)
@[reducible] def pd:List (Nat×nz)->Type->Type
 |[],r=>r
 |(_,.v a)::l,r=>a.den×pd l r
 |(_,.s _)::l,r=>pd l r
 |(_,.p _ _ _)::l,r=>Nat×pd l r
 |(_,.w _)::l,r=>c7×pd l r
@[reducible] def uo:List (Nat×aj)->Type
 |[]=>Unit
 |(_,a)::l=>a.den×uo l
@[reducible] def l4.den (a:l4):Type:=pd a.g (uo a.h)
def mW {e:Type}:(c:List (Nat×nz))->pd c e->List (Nat×ao)
 |[],_=>[]
 |(d,.v f)::c,s=>(d,.val f s.1)::mW c s.2
 |(d,.s a)::c,s=>(d,a)::mW c s
 |(d,.p id a b)::c,s=>(d,.ref id (a++.idx s.1::b))::mW c s.2
 |(d,.w id)::c,s=>(d,.view id [] s.1.1 s.1.2)::mW c s.2
def tq {b:Type}:(a:List (Nat×nz))->pd a b->b
 |[],s=>s
 |(_,.v _)::a,s=>tq a s.2
 |(_,.s _)::a,s=>tq a s
 |(_,.p _ _ _)::a,s=>tq a s.2
 |(_,.w _)::a,s=>tq a s.2
def tn:(a:List (Nat×aj))->uo a->List (Nat×aH)
 |[],_=>[]
 |(d,b)::a,s=>(d,⟨b,s.1⟩)::tn a s.2
def jK (a:l4) (b:a.den):aQ:=⟨mW a.g b,tn a.h (tq a.g b)⟩
def gS {τ:aj} (a:aj) (b:τ.den):Option a.den:=if e:τ=a then some (e▸b) else none
theorem jk {a:y.den} {b:n.den} (c:gS n a=some b):(⟨y,a⟩:aH)=⟨n,b⟩:=by grind [gS]
def uu:a5->a5->Bool
 |.idx a,.idx b=>Nat.beq a b
 |.deref,.deref|.unst,.unst|.fst,.fst|.snd,.snd=>true
 |_,_=>false
theorem uu.ok {a:a5} (b:uu T a=true):T=a:=by cases T<;>cases a<;>first|rfl|(cases b;done)|(rw[eF b])
def kM:List a5->List a5->Bool
 |[],[]=>true
 |a::c,b::d=>uu a b&&kM c d
 |_,_=>false
theorem kM.ok:∀{c d:List a5},kM c d=true->c=d
 |[],[],_=>rfl
 |[],_::_,b=>by cases b
 |_::_,[],b=>by cases b
 |a::c,e::d,b=>by simp only[kM,bp] at b;rw[uu.ok b.1,kM.ok b.2]
def sM:ao->ao->Bool
 |.ref a c,.ref b d=>Nat.beq a b&&kM c d
 |.addr a c,.addr b d=>Nat.beq a b&&kM c d
 |_,_=>false
theorem sM.ok {a b:ao} (c:sM a b=true):a=b:=by cases a<;>cases b<;>first|(cases c;done)|(simp only[sM,bp] at c;grind [Nat.eq_of_beq_eq_true,kM.ok])
def sN:List ao->List ao->Bool
 |[],[]=>true
 |a::c,b::d=>sM a b&&sN c d
 |_,_=>false
theorem sN.ok:∀{c d:List ao},sN c d=true->c=d
 |[],[],_=>rfl
 |[],_::_,b=>by cases b
 |_::_,[],b=>by cases b
 |a::c,e::d,b=>by simp only[sN,bp] at b;rw[sM.ok b.1,sN.ok b.2]
def qW:ao->ao->Bool
 |.dv c e,.dv d f=>Nat.beq c d&&sN e f
 |a,b=>sM a b
theorem qW.ok {a b:ao} (c:qW a b=true):a=b:=by cases a<;>cases b<;>first|exact sM.ok c|(simp only[qW,bp] at c;grind [Nat.eq_of_beq_eq_true,sN.ok])
def zx:List a5->List a5->List a5->ad0
 |[],a,.idx k::b=>bif kM a b then some k else none
 |s::c,a,d::b=>bif uu s d then zx c a b else none
 |_,_,_=>none
theorem Ok:∀{d b e:List a5} {c:Nat},zx d b e=some c->e=d++.idx c::b
 |[],b,[],c,a=>by cases a
 |[],b,s::e,c,a=>by
  cases s<;>simp only[zx] at a<;>try (cases a;done)
  grind [kM.ok]
 |s::d,b,[],c,a=>by cases a
 |s::d,b,g::e,c,a=>by
  simp only[zx] at a;cases f:uu s g with
  |false=>grind
  |true=>rw[f] at a;rw[uu.ok f,Ok a];rfl
def o5 {f:Type} (e:List (Nat×ao)) (g:Option f):(c:List (Nat×nz))->Option (pd c f)
 |[]=>g
 |(d,.v o)::c=>match gt e d with
  |.val _ m=>match gS o m with
   |some n=>(o5 e g c).map (λi=>(n,i))
   |none=>none
  |_=>none
 |(d,.s a)::c=>match qW a (gt e d) with
  |true=>o5 e g c
  |false=>none
 |(d,.p id a b)::c=>match gt e d with
  |.ref h i=>bif Nat.beq id h then match zx a b i with
   |some k=>(o5 e g c).map (λf=>(k,f))
   |none=>none else none
  |_=>none
 |(d,.w id)::c=>match gt e d with
  |.view h [] l j=>bif Nat.beq id h then(o5 e g c).map (λf=>((l,j),f)) else none
  |_=>none
def De (b:List (Nat×aH)):(a:List (Nat×aj))->Option (uo a)
 |[]=>some ()
 |(d,g)::a=>match au b d with
  |some e=>match gS g e.2 with
   |some f=>(De b a).map (λc=>(f,c))
   |none=>none
  |none=>none
def vO:List (Nat×aj)->Nat->Bool
 |[],_=>false
 |(k,_)::r,n=>bif Nat.beq k n then true else vO r n
def pe:List (Nat×nz)->List (Nat×aj)->Bool
 |[],_=>true
 |(_,.v _)::l,h=>pe l h
 |(_,.s a)::l,h=>(a.ids.all λid=>vO h id)&&pe l h
 |(_,.p id _ _)::l,h=>vO h id&&pe l h
 |(_,.w id)::l,h=>vO h id&&pe l h
def proj (a:l4) (b:aQ):Option a.den:=bif pe a.g a.h then o5 b.g (De b.h a.h) a.g else none
theorem Ca:∀{b:List (Nat×aj)} {c:uo b} {id:Nat},vO b id=true->(au (tn b c) id).isSome=true
 |[],_,_,a=>by cases a
 |(k,e)::b,c,id,a=>by
  simp only[vO] at a;simp only[tn,au];cases d:Nat.beq k id with
  |true=>rfl
  |false=>rw[d] at a;exact Ca (by grind)
theorem za {o:Type} {q:aQ} {n:Option o}:∀{e:List (Nat×nz)} {f:pd e o},o5 q.g n e=some f->nF (mW e f) q/\n=some (tq e f)
 |[],f,c=>⟨trivial,c⟩
 |(d,.v F)::e,f,c=>by
  simp only[o5] at c;split at c
  case h_2=>cases c
  rename_i G D t;split at c
  case h_2=>cases c
  rename_i E u;obtain⟨x,k,rfl⟩:=er.1 c;obtain⟨h,i⟩:=za k;refine⟨⟨?_,h⟩,i⟩;rw[t];cases jk u;rfl
 |(d,.s a)::e,f,c=>by
  simp only[o5] at c;split at c
  case h_2=>cases c
  rename_i r;obtain⟨h,i⟩:=za c;exact⟨⟨(qW.ok r).symm,h⟩,i⟩
 |(d,.p id a b)::e,f,c=>by
  simp only[o5] at c;split at c
  case h_2=>cases c
  rename_i m x k;cases j:Nat.beq id m with
  |false=>grind
  |true=>
  rw[j] at c;simp only[cond_true] at c;split at c
  case h_2=>cases c
  rename_i B A;obtain⟨y,l,rfl⟩:=er.1 c;obtain⟨h,i⟩:=za l;refine⟨⟨?_,h⟩,i⟩;grind [Ok,Nat.eq_of_beq_eq_true]
 |(d,.w id)::e,f,c=>by
  simp only[o5] at c;split at c
  case h_2=>cases c
  rename_i m C z k;cases j:Nat.beq id m with
  |false=>grind
  |true=>
  rw[j] at c;simp only[cond_true] at c;obtain⟨y,l,rfl⟩:=er.1 c;obtain⟨h,i⟩:=za l;refine⟨⟨?_,h⟩,i⟩;simp_all
theorem Ni {e:aQ}:∀{b:List (Nat×aj)} {c:uo b},De e.h b=some c->nG (tn b c) e
 |[],c,a=>trivial
 |(d,m)::b,c,a=>by
  simp only[De] at a;split at a
  case h_2=>cases a
  rename_i k g;split at a
  case h_2=>cases a
  rename_i l i;obtain⟨j,f,rfl⟩:=er.1 a;refine⟨?_,Ni f⟩;grind [jk]
theorem zv {r:Type} {c:List (Nat×aj)} {t:uo c}:∀{l:List (Nat×nz)} {s:pd l r},pe l c=true->k8 (mW l s) (tn c t)=true
 |[],s,h=>rfl
 |(d,.v e)::l,s,h=>by have:=zv (r:=r) (t:=t) (l:=l) (s:=s.2) h;simp only[k8,mW,ss,ao.ids,List.all_nil,Bool.true_and] at this|-;omega
 |(d,.s a)::l,s,h=>by simp only[pe,bp] at h;have:=zv (r:=r) (t:=t) (l:=l) (s:=s) h.2;simp only[k8,mW,ss,bp] at this|-;grind [Ca,List.all_eq_true]
 |(_,.p id a b)::l,s,h=>by simp only[pe,bp] at h;have:=zv (r:=r) (t:=t) (l:=l) (s:=s.2) h.2;simp only[k8,mW,ss,bp] at this|-;refine⟨?_,this⟩;simp_all [Ca,ss,List.all_nil,Bool.and_true,ao.ids]
 |(_,.w id)::l,s,h=>by simp only[pe,bp] at h;have:=zv (r:=r) (t:=t) (l:=l) (s:=s.2) h.2;simp only[k8,mW,ss,bp] at this|-;refine⟨?_,this⟩;simp_all [Ca,ss,List.all_nil,Bool.and_true,ao.ids]
theorem r1 {a:l4} {b:a.den} (c:proj a i=some b):nF (jK a b).g i/\nG (jK a b).h i/\k8 (jK a b).g (jK a b).h=true:=by
 unfold proj at c;cases d:pe a.g a.h with
 |false=>grind
 |true=>
  rw[d] at c;obtain⟨e,f⟩:=za c;exact⟨e,Ni f,zv d⟩
inductive fQ where
 |v (τ:aj)
 |m (τ:aj)
 |o (τ:aj)
 |c (f:Nat) (τs:List aj)
 |n
 |s (f:Nat) (l:ad4)
 |w (σ:aj)
@[reducible] def kr:List aj->Type
 |[]=>Unit
 |τ::a=>τ.den×kr a
@[reducible] def fW:List fQ->Type
 |[]=>Unit
 |.c _ e::a=>kr e×fW a
 |.n::a=>Unit×fW a
 |.s _ _::a=>Unit×fW a
 |.v b::a=>b.den×fW a
 |.m b::a=>b.den×fW a
 |.o b::a=>b.den×fW a
 |.w d::a=>(List d.den×Nat×Nat)×fW a
@[reducible] def hx:List fQ->Type->Type
 |[],a=>a
 |.m e::b,a=>e.den×hx b a
 |.w d::b,a=>List d.den×hx b a
 |.v _::b,a=>hx b a
 |.o _::b,a=>hx b a
 |.c _ _::b,a=>hx b a
 |.n::b,a=>hx b a
 |.s _ _::b,a=>hx b a
structure ik where
 f:Nat
 ps:List fQ
 rs:List aj
 wv:fW ps->Option (hx ps (kr rs))
def hM:(c:List aj)->kr c->List aH
 |[],_=>[]
 |τ::b,a=>⟨τ,a.1⟩::hM b a.2
def eZ {j:Type}:(f:List fQ)->fW f->hx f j->List gh
 |[],_,_=>[]
 |.v e::d,a,b=>.v ⟨e,a.1⟩::eZ d a.2 b
 |.m e::d,a,b=>.m ⟨e,a.1⟩ b.1::eZ d a.2 b.2
 |.o e::d,a,b=>.o ⟨e,a.1⟩::eZ d a.2 b
 |.c h l::d,a,b=>.c h (hM l a.1)::eZ d a.2 b
 |.n::d,a,b=>.n::eZ d a.2 b
 |.w k::d,a,b=>.w k a.1.1 a.1.2.1 a.1.2.2 b.1::eZ d a.2 b.2
 |.s g i::d,a,b=>.s g i::eZ d a.2 b
def g2 {d:Type}:(e:List fQ)->hx e d->d
 |[],a=>a
 |.m _::b,a=>g2 b a.2
 |.w _::b,a=>g2 b a.2
 |.v _::b,a=>g2 b a
 |.o _::b,a=>g2 b a
 |.c _ _::b,a=>g2 b a
 |.n::b,a=>g2 b a
 |.s _ _::b,a=>g2 b a
def ie:Nat->List fQ->Option cU
 |_,[]=>none
 |k,.s a b::_=>some (k,a,b)
 |k,_::c=>ie (k+1) c
theorem zn {r:Type}:∀{k:Nat} {ps:List fQ} {a:fW ps} {b:hx ps r},nZ k (eZ ps a b)=ie k ps
 |k,[],a,b=>rfl
 |k,e::d,a,b=>by have c:=λa b=>zn (r:=r) (k:=k+1) (ps:=d) (a:=a) (b:=b);cases e<;>first|exact c _ _|rfl
def aE (E:eh) (a:ik):Prop:=
 (∀(d:adW) (e:World),(callFunc a.f d).run E.P e=.ok (.enter a.f d) e)/\∀c b,a.wv c=some b->qD E a.f (eZ a.ps c b) (hM a.rs (g2 a.ps b))
def gI:(j:aj)->j.den->List a5->(a:aj)->Option a.den
 |_,c,[],a=>gS a c
 |.osl d,i,.idx h::b,a=>match i[h]? with
  |some g=>gI d g b a
  |none=>none
 |.optr d,c,.deref::b,a=>gI d c b a
 |.st d,c,.unst::b,a=>gI d c b a
 |.pr e _,c,.fst::b,a=>gI e c.1 b a
 |.pr _ f,c,.snd::b,a=>gI f c.2 b a
 |_,_,_,_=>none
def S7 {a:n.den}:gI n a [] y=gS y a:=by cases n<;>rfl
theorem ho:∀{g:List a5} {τ:aj} {e:τ.den} {d:aj} {f:d.den},gI τ e g d=some f->df τ e g d f
 |[],τ,e,d,f,c=>by rw[S7] at c;cases jk c;grind [df.e1]
 |s::g,τ,e,d,f,c=>by
  cases τ<;>cases s<;>simp only[gI] at c<;>try (cases c;done)
  case osl.idx t i=>
   split at c
   ·rename_i h j;exact⟨h,j,ho c⟩
   grind
  case optr.deref t=>exact ho (τ:=t) c
  case st.unst t=>exact ho (τ:=t) c
  case pr.fst a b=>exact ho (τ:=a) c
  case pr.snd a b=>exact ho (τ:=b) c
def wl {τ':aj} (b:τ'.den) (a:aj):Option a.den:=if e:dj τ' a=true then some (cast (dj.den e) b) else none
theorem M9 {b:y.den} {c:n.den} (a:wl b n=some c):mK y b n c:=by
 unfold wl at a;split at a
 ·rename_i d;cases a;exact .same d (cast_heq _ _).symm
 grind
def y9:(c:aj)->c.den->(b:aj)->Option b.den
 |.optr d,a,.ptr .dt e=>(wl (τ':=d) a e).map some
 |_,a,b=>wl a b
theorem XD {c:y.den} {d:n.den} (a:y9 y c n=some d):mK y c n d:=by
 unfold y9 at a;split at a
 ·obtain⟨f,b,rfl⟩:=er.1 a;simp only[wl] at b;split at b
  ·rename_i e;cases b;exact .ptr e (cast_heq _ _).symm
  grind
 exact M9 a
def oL:aj->Value->Bool
 |τ,.agg _=>oX τ
 |_,.tuple _=>false
 |τ,_=>!oX τ
theorem oL.ok (a:oL n H=true):bO n H.cells.toList=H:=by
 cases H<;>simp only[oL] at a<;>first
  |(cases a;done)
  |(rw[Dl a];rfl)
  |(rw[wK] at a;rw[Dk a];rfl)
def mR (
 h:List (Nat×aH)) (f:ad4):ao->(a:aj)->Option a.den
 |.val _ g,a=>wl g a
 |.cv d,a=>bif oL a d then hG a d.cells.toList else none
 |.ref id c,a=>match du id f with
  |true=>none
  |false=>match au h id with
   |none=>none
   |some b=>match dR b.1 c with
    |none=>none
    |some e=>match gI b.1 b.2 c e with
     |none=>none
     |some i=>y9 e i a
 |_,_=>none
theorem IY {h:n.den} (a:mR e f d n=some h):si e f d ⟨n,h⟩:=by
 cases d with
 |val c b=>exact M9 a
 |cv p=>
  simp only[mR] at a;cases i:oL n p with
  |false=>grind
  |true=>rw[i] at a;exact⟨a,oL.ok i⟩
 |ref id m=>
  simp only[mR] at a;split at a
  ·cases a
  rename_i j;split at a
  ·cases a
  rename_i o k;split at a
  ·cases a
  rename_i c q;split at a
  ·cases a
  rename_i b l;have:du id f=false/\∃g c b,au e id=some g/\df g.1 g.2 m c b/\mK c b n h:=⟨j,o,c,b,k,ho l,XD a⟩;exact this
 |_=>cases a
def nN (b:List (Nat×aH)) (a:ad4):(g:List aj)->List ao->Option (kr g)
 |[],[]=>some ()
 |τ::d,c::as=>match mR b a c τ with
  |some f=>(nN b a d as).map (λe=>(f,e))
  |none=>none
 |_,_=>none
def KB {f:List (Nat×aH)} {d:ad4}:∀{c:List aj} {e:List ao} {b:kr c},nN f d c e=some b->hl (si f d) e (hM c b)
 |[],[],_,_=>trivial
 |[],_::_,_,a=>by cases a
 |_::_,[],_,a=>by cases a
 |τ::j,i::as,b,a=>by
  simp only[nN] at a;split at a
  case h_2=>cases a
  rename_i l h;obtain⟨k,g,rfl⟩:=er.1 a;exact⟨IY h,KB g⟩
def qz:List ao->List fQ->ad4
 |.ref id []::as,.m _::a=>id::qz as a
 |.ref id []::as,.o _::a=>id::qz as a
 |.view id [] _ _::as,.w _::a=>id::qz as a
 |_::as,_::a=>qz as a
 |_,_=>[]
def rS:Value->Bool
 |.slice none 0 0=>true
 |_=>false
theorem rS.ok (a:rS H=true):H=.slice none 0 0:=by grind [rS]
def yT:(a:aj)->Value->Option a.den
 |.osl _,.slice none 0 0=>some []
 |_,_=>none
theorem U2 {b:n.den} (a:yT n H=some b):H=.slice none 0 0/\∃c,(⟨n,b⟩:aH)=⟨.osl c,[]⟩:=by
 unfold yT at a;split at a
 ·simp_all
 grind
def ep (d:List (Nat×aH)) (f:ad4):(t:List fQ)->List ao->Option (fW t)
 |[],[]=>some ()
 |.v g::b,p::as=>match mR d f p g with
  |some e=>(ep d f b as).map (λa=>(e,a))
  |none=>none
 |.c r u::b,.dv q a::as=>bif Nat.beq q r then match nN d f u a with
  |some e=>(ep d f b as).map (λa=>(e,a))
  |none=>none else none
 |.m g::b,.ref id []::as=>bif g.eD&&qB g then match au d id with
  |some h=>match gS g h.2 with
   |some e=>(ep d f b as).map (λa=>(e,a))
   |none=>none
  |none=>none else none
 |.o g::b,.ref id []::as=>match au d id with
  |some h=>match gS g h.2 with
   |some e=>(ep d f b as).map (λa=>(e,a))
   |none=>none
  |none=>none
 |.n::b,.cv i::as=>bif rS i then(ep d f b as).map (λa=>((),a)) else none
 |.s _ _::b,_::as=>(ep d f b as).map (λa=>((),a))
 |.o g::b,.cv i::as=>match yT g i with
  |some e=>(ep d f b as).map (λa=>(e,a))
  |none=>none
 |.w l::b,.view id [] k j::as=>bif l.eD then(bif Nat.blt k j then match au d id with
  |some h=>match gS (.osl l) h.2 with
   |some e=>(ep d f b as).map (λa=>((e,k,j),a))
   |none=>none
  |none=>none else none) else none
 |_,_=>none
def Am {h:Type} (f:List (Nat×aH)) (e:ad4) (av:ao) (c:aj) (d:c.den->Option h):Option h:=match av with
 |.ref id g=>match du id e with
  |true=>none
  |false=>match au f id with
   |none=>none
   |some a=>match dR a.1 g with
    |none=>none
    |some i=>(gI a.1 a.2 g i).bind λj=>match y9 i j c with
     |none=>none
     |some b=>d b
 |av=>match mR f e av c with
  |none=>none
  |some b=>d b
theorem Qr {c:n.den->Option a}:Am e f d n c=(mR e f d n).bind c:=by
 cases d with
 |ref id g=>
  grind [du,au,dR,gI,y9,Am,mR]
 |_=>
  simp only[Am];split
  ·rename_i b;rw[b];rfl
  rename_i b;rw[b];rfl
def iX {p:Type} (e:List (Nat×aH)) (g:ad4):(x:List fQ)->List ao->(fW x->Option p)->Option p
 |[],[],a=>a ()
 |.v h::d,r::as,a=>Am e g r h λf=>iX e g d as λb=>a (f,b)
 |.c u y::d,.dv t b::as,a=>bif Nat.beq t u then match nN e g y b with
  |some f=>iX e g d as λb=>a (f,b)
  |none=>none else none
 |.m h::d,.ref id []::as,a=>bif h.eD&&qB h then match au e id with
  |some i=>match gS h i.2 with
   |some f=>iX e g d as λb=>a (f,b)
   |none=>none
  |none=>none else none
 |.o h::d,.ref id []::as,a=>match au e id with
  |some i=>match gS h i.2 with
   |some f=>iX e g d as λb=>a (f,b)
   |none=>none
  |none=>none
 |.n::d,.cv j::as,a=>bif rS j then iX e g d as λb=>a ((),b) else none
 |.s _ _::d,_::as,a=>iX e g d as λb=>a ((),b)
 |.o h::d,.cv j::as,a=>match yT h j with
  |some f=>iX e g d as λb=>a (f,b)
  |none=>none
 |.w q::d,.view id [] l k::as,a=>bif q.eD then(bif Nat.blt l k then match au e id with
  |some i=>match gS (.osl q) i.2 with
   |some f=>iX e g d as λb=>a ((f,l,k),b)
   |none=>none
  |none=>none else none) else none
 |_,_,_=>none
theorem mj {A:Type} {d:List (Nat×aH)} {f:ad4}:∀{k:List fQ} {q:List ao} {b:fW k->Option A},iX d f k q b=(ep d f k q).bind b
 |[],[],b=>rfl
 |[],_::_,b=>rfl
 |p::a,[],b=>by cases p<;>rfl
 |.v h::a,e::as,b=>by
  simp only[iX,ep,Qr];cases mR d f e h with
  |none=>rfl
  |some g=>
   simp only[aG];rw[mj];cases ep d f a as<;>rfl
 |.c z B::a,e::as,b=>by
  cases e with
  |dv y i=>
   simp only[iX,ep];cases Nat.beq y z with
   |false=>rfl
   |true=>
    simp only[cond_true];cases nN d f B i with
    |none=>rfl
    |some g=>
     simp only;rw[mj];cases ep d f a as<;>rfl
  |ref id p=>cases p<;>rfl
  |_=>rfl
 |.m h::a,e::as,b=>by
  cases e with
  |ref id p=>
   cases p with
   |cons=>rfl
   |nil=>
    simp only[iX,ep];cases(h.eD&&qB h) with
    |false=>rfl
    |true=>
     simp only[cond_true];cases au d id with
     |none=>rfl
     |some j=>
      simp only;cases gS h j.2 with
      |none=>rfl
      |some g=>
       simp only;rw[mj];cases ep d f a as<;>rfl
  |_=>rfl
 |.o h::a,e::as,b=>by
  cases e with
  |ref id p=>
   cases p with
   |cons=>rfl
   |nil=>
    simp only[iX,ep];cases au d id with
    |none=>rfl
    |some j=>
     simp only;cases gS h j.2 with
     |none=>rfl
     |some g=>
      simp only;rw[mj];cases ep d f a as<;>rfl
  |cv l=>
   simp only[iX,ep];cases yT h l with
   |none=>rfl
   |some g=>
    simp only;rw[mj];cases ep d f a as<;>rfl
  |_=>rfl
 |.w u::a,e::as,b=>by
  cases e with
  |view id p t r=>
   cases p with
   |cons=>rfl
   |nil=>
    simp only[iX,ep];cases u.eD with
    |false=>rfl
    |true=>
     simp only[cond_true];cases Nat.blt t r with
     |false=>rfl
     |true=>
     simp only[cond_true];cases au d id with
     |none=>rfl
     |some j=>
      simp only;cases gS (.osl u) j.2 with
      |none=>rfl
      |some g=>
       simp only;rw[mj];cases ep d f a as<;>rfl
  |ref id p=>cases p<;>rfl
  |_=>rfl
 |.n::a,e::as,b=>by
  cases e with
  |cv l=>
   simp only[iX,ep];cases rS l with
   |false=>rfl
   |true=>
    simp only[cond_true];rw[mj];cases ep d f a as<;>rfl
  |ref id p=>cases p<;>rfl
  |_=>rfl
 |.s C i::a,e::as,b=>by
  have x:∀g:Option (fW a),(g.bind λi=>b ((),i))=(g.map λi=>((),i)).bind b:=λg=>(by cases g<;>rfl);cases e with
  |ref id p=>cases p<;>(simp only[iX,ep];rw[mj];grind)
  |view id p t r=>cases p<;>(simp only[iX,ep];rw[mj];grind)
  |_=>simp only[iX,ep];rw[mj];exact x _
theorem HH {r:Type}:∀{ps:List fQ} {a:fW ps} {b:hx ps r} {avs:List ao},eM avs (eZ ps a b)=qz avs ps
 |[],a,b,avs=>by cases avs with|nil=>rfl|cons h c=>cases h<;>first|rfl|(rename_i id p;cases p<;>rfl)|(rename_i id p c g;cases p<;>rfl)
 |p::c,a,b,[]=>by cases p<;>rfl
 |p::c,a,b,f::avs=>by have d:=λa b=>HH (r:=r) (ps:=c) (a:=a) (b:=b) (avs:=avs);cases p<;>cases f<;>first|exact d _ _|(rename_i id e;cases e<;>simp only[eZ,eM,qz,d];done)|(rename_i id e c g;cases e<;>simp only[eZ,eM,qz,d])
theorem oT {G:Type} {q:List (Nat×aH)} {u:ad4}:∀{r:List fQ} {e:fW r} {g:hx r G} {h:List ao},ep q u r h=some e->nl q u h (eZ r e g)
 |[],e,g,[],_=>trivial
 |[],e,g,_::_,a=>by cases a
 |p::i,e,g,[],a=>by cases p<;>cases a
 |.v t::i,e,g,d::h,a=>by
  simp only[ep] at a;split at a
  case h_2=>cases a
  rename_i l j;obtain⟨k,b,rfl⟩:=er.1 a;exact⟨by cases d<;>exact IY j,oT b⟩
 |.c F J::i,e,g,d::h,a=>by
  cases d with
  |dv E k=>
   simp only[ep] at a;cases f:Nat.beq E F with
   |false=>grind
   |true=>
    rw[f] at a;obtain rfl:=eF f;simp only[cond_true] at a;split at a
    case h_2=>cases a
    rename_i l j;obtain⟨I,b,rfl⟩:=er.1 a;exact⟨⟨rfl,KB j⟩,oT b⟩
  |ref id p=>cases p<;>cases a
  |_=>cases a
 |.m t::i,e,g,d::h,a=>by
  cases d with
  |ref id p=>cases p with
   |cons=>cases a
   |nil=>
    simp only[ep] at a;cases f:(t.eD&&qB t) with
    |false=>grind
    |true=>
     rw[f] at a;simp only[bp] at f;simp only[cond_true] at a;split at a
     case h_2=>cases a
     rename_i B A;split at a
     case h_2=>cases a
     rename_i l j;obtain⟨k,b,rfl⟩:=er.1 a;refine⟨⟨?_,f.1,f.2⟩,oT b⟩;grind [jk]
  |_=>cases a
 |.o t::i,e,g,d::h,a=>by
  cases d with
  |ref id p=>cases p with
   |cons=>cases a
   |nil=>
    simp only[ep] at a;split at a
    case h_2=>cases a
    rename_i B A;split at a
    case h_2=>cases a
    rename_i l j;obtain⟨k,b,rfl⟩:=er.1 a;refine⟨?_,oT b⟩;show au q id=some _;grind [jk]
  |cv C=>
   simp only[ep] at a;split at a
   case h_2=>cases a
   rename_i l j;obtain⟨k,b,rfl⟩:=er.1 a;exact⟨U2 j,oT b⟩
  |_=>cases a
 |.w H::i,e,g,d::h,a=>by
  cases d with
  |view id p y x=>cases p with
   |cons=>cases a
   |nil=>
    simp only[ep] at a;cases f:H.eD with
    |false=>grind
    |true=>
     rw[f] at a;simp only[cond_true] at a;cases z:Nat.blt y x with
     |false=>grind
     |true=>
     rw[z] at a;simp only[cond_true] at a;split at a
     case h_2=>cases a
     rename_i B A;split at a
     case h_2=>cases a
     rename_i l j;obtain⟨k,b,rfl⟩:=er.1 a;refine⟨⟨?_,⟨rfl,rfl⟩,e4 z,f⟩,oT b⟩;grind [jk]
  |ref id p=>cases p<;>cases a
  |_=>cases a
 |.n::i,e,g,d::h,a=>by
  cases d with
  |cv C=>
   simp only[ep] at a;cases f:rS C with
   |false=>grind
   |true=>
    rw[f] at a;obtain⟨k,b,rfl⟩:=er.1 a;exact⟨rS.ok f,oT b⟩
  |ref id p=>cases p<;>cases a
  |_=>cases a
 |.s D k::i,e,g,d::h,a=>by
  have a:(ep q u i h).map (λl=>(((),l):fW (.s D k::i)))=some e:=by
   cases d with
   |ref id p=>cases p<;>exact a
   |view id p y x=>cases p<;>exact a
   |_=>exact a
  obtain⟨l,b,rfl⟩:=er.1 a;refine⟨?_,oT b⟩;cases d with
  |ref id p=>cases p<;>trivial
  |view id p y x=>cases p<;>trivial
  |_=>trivial
end
section
def li:(τ:aj)->τ.den->List a5->(b:aj)->b.den->Option τ.den
 |τ,_,[],_,a=>gS τ a
 |.osl f,h,.idx g::c,b,a=>match h[g]? with
  |some k=>(li f k c b a).map λe=>h.set g e
  |none=>none
 |.optr f,d,.deref::c,b,a=>li f d c b a
 |.st f,d,.unst::c,b,a=>li f d c b a
 |.pr i _,d,.fst::c,b,a=>(li i d.1 c b a).map λe=>(e,d.2)
 |.pr _ j,d,.snd::c,b,a=>(li j d.2 c b a).map λe=>(d.1,e)
 |_,_,_,_,_=>none
def Y9 {b:n.den} {a:y.den}:li n b [] y a=gS n a:=by cases n<;>rfl
def dK.US {d:n.den} {a:y.den} {b:n.den} (c:gS n a=some b):dK n d [] y a b:=by cases jk c;cases n<;>exact⟨rfl,rfl⟩
def lR:∀{k:List a5} {τ:aj} {g:τ.den} {f:aj} {h:f.den} {j:τ.den},li τ g k f h=some j->dK τ g k f h j
 |[],τ,g,f,h,j,c=>by rw[Y9] at c;exact dK.US c
 |s::k,τ,g,f,h,j,c=>by
  cases τ<;>cases s<;>simp only[li] at c<;>try (cases c;done)
  case osl.idx t i=>
   split at c
   ·rename_i l m;obtain⟨d,e,rfl⟩:=er.1 c;exact⟨l,d,m,lR e,rfl⟩
   cases c
  case optr.deref t=>exact lR (τ:=t) c
  case st.unst t=>exact lR (τ:=t) c
  case pr.fst a b=>
   obtain⟨d,e,rfl⟩:=er.1 c;exact⟨d,lR e,rfl⟩
  case pr.snd a b=>
   obtain⟨d,e,rfl⟩:=er.1 c;exact⟨d,lR e,rfl⟩
def fV (a:Int):ad0:=if 0<=a then some a.toNat else none
def UI {c:Int} (a:fV c=some b):c=(b:Int):=by
 unfold fV at a;split at a
 ·cases a;omega
 cases a
def bh (b:Nat) (a:Int):ad0:=if 0<=a/\a.toNat<b then some a.toNat else none
def KN {c:Int} (a:bh l c=some b):c=(b:Int)/\b<l:=by
 unfold bh at a;split at a
 ·cases a;omega
 cases a
def bN (a:Nat):Option Unit:=if a<=fm then some () else none
def vV {c:Unit} (a:bN b=some c):b<=fm:=by
 unfold bN at a;split at a
 ·assumption
 cases a
def gL (b:IntKind) (c a:Int):adZ:=if a≠0 then some (b.wrap (c.tdiv a)) else none
def gM (b a:Int):adZ:=if a≠0 then some (b.tmod a) else none
def gN (a:IntKind) (c b:Int):adZ:=if 0<=b then some (a.wrap (c*2^min b.toNat a.bits)) else none
def dk (b:IntKind) (c a:Int):adZ:=if 0<=a then some (c.fdiv (2^min a.toNat b.bits)) else none
def dr (a:IntKind) (b c:Int):Int:=a.wrap (BitVec.ofInt a.bits b&&&BitVec.ofInt a.bits c).toNat
def eL (a:IntKind) (b c:Int):Int:=a.wrap (BitVec.ofInt a.bits b|||BitVec.ofInt a.bits c).toNat
def sh (a:IntKind) (b c:Int):Int:=a.wrap (BitVec.ofInt a.bits b^^^BitVec.ofInt a.bits c).toNat
def Qf (a:IntKind) (b c:Int):Int:=a.wrap (BitVec.ofInt a.bits b&&&~~~BitVec.ofInt a.bits c).toNat
def va (c:Option ao) (a:Nat):ad0:=
 match c with
 |none=>some a
 |some (.val (.int _) b)=>fV b
 |some _=>none
def Ar {c:Option ao} (a:va c b=some l):qZ c b l:=by
 unfold va at a;unfold qZ;split at a
 ·cases a;rfl
 ·exact UI a
 cases a
def gd (b a c:Nat):Option Unit:=if b<=a/\a<=c then some () else none
def K9 {c:Unit} (a:gd l b W=some c):l<=b/\b<=W:=by
 unfold gd at a;split at a
 ·assumption
 cases a
def uc (_:Nat):Option Unit:=some ()
def dV (a b:Int):ad0:=if 0<=a/\a<=b/\b<=(fm:Int) then some a.toNat else none
open Classical in
def m7 {b:Type} (c:Nat) (d a:Option b):Option b:=if c=0 then if d=a then a else none else a
def UQ {f g:Option a} {e:a} (c:m7 b f g=some e):g=some e/\(b=0->f=some e):=by
 unfold m7 at c;split at c
 ·split at c
  ·rename_i d;exact⟨c,λ_=>d.trans c⟩
  cases c
 rename_i d;exact⟨c,λh=>absurd h d⟩
def oI:ad5:=[0,1,28,2,29,14,24,3,30,22,20,15,25,17,4,8,31,27,13,23,21,19,16,7,26,12,18,6,11,5,10,9]
inductive D8 where
 |dw (av:ao)
 |opt (α:Type) (o:Option α) (f:α->ao)
 |new (α:Type) (o:Option α) (t:α->aH) (d:Nat)
 |no
def jn (tt:List (TypeId×aj)) (z:List (Nat×aj)) (k:List (Nat×aH)) (g:Operand->ao) (w:Nat) (v:Op):D8:=
 match v with
 |.binOp v _ b e _=>match g b,g e with
  |.val (.int c) b,.val (.int A) e=>if c=A then
   (match v with
   |.add=>.dw (.val (.int c) (c.wrap (b+e)))
   |.sub=>.dw (.val (.int c) (c.wrap (b-e)))
   |.mul=>.dw (.val (.int c) (c.wrap (b*e)))
   |.quo=>.opt Int (gL c b e) (.val (.int c))
   |.rem=>.opt Int (gM b e) (.val (.int c))
   |.shl=>.opt Int (gN c b e) (.val (.int c))
   |.shr=>.opt Int (dk c b e) (.val (.int c))
   |.and=>.dw (.val (.int c) (dr c b e))
   |.or=>.dw (.val (.int c) (eL c b e))
   |.xor=>.dw (.val (.int c) (sh c b e))
   |.andNot=>.dw (.val (.int c) (Qf c b e))
   |_=>.no) else
   (match v with
   |.shl=>.opt Int (gN c b e) (.val (.int c))
   |.shr=>.opt Int (dk c b e) (.val (.int c))
   |_=>.no)
  |_,_=>.no
 |.unOp .neg _ b=>match g b with
  |.val (.int c) b=>.dw (.val (.int c) (c.wrap (0-b)))
  |_=>.no
 |.convert t p b=>match au tt t,au tt p,g b with
  |some (.int _),some (.int c),.val (.int _) b=>.dw (.val (.int c) (c.wrap b))
  |_,_,_=>.no
 |.nilCheck b=>match g b with
  |.val (.ptr r a) b=>.opt a.den b λe=>.val (.ptr r a) (some e)
  |_=>.no
 |.indexAddr h b q=>match fh tt h,g q with
  |some i,.val (.int _) q=>match g b with
   |.val (.bb r a) j=>bif ba i a then .opt a.den (aC j q) λe=>.val (.ptr r a) (some e) else .no
   |.ref id f=>match au k id with
    |some d=>match dR d.1 f with
     |some (.osl a)=>bif ba i a then .opt Nat ((gI d.1 d.2 f (.osl a)).bind λj=>bh j.length q) λc=>.addr id (f++[.idx c]) else .no
     |_=>.no
    |none=>.no
   |.view id [] s u=>match au k id with
    |some d=>match d.1 with
     |.osl a=>bif ba i a then .opt Nat (bh (u-s) q) λc=>.addr id [.idx (s+c)] else .no
     |_=>.no
    |none=>.no
   |_=>.no
  |_,_=>.no
 |.load h b=>match au tt h with
  |some i=>match g b with
   |.addr id f=>match au k id with
    |some d=>match dR d.1 f with
     |some a=>bif ba i a&&a.pure then .opt a.den (gI d.1 d.2 f a) λe=>.val a e else .no
     |none=>.no
    |none=>.no
   |.ref id f=>match au k id with
    |some d=>match dR d.1 f with
     |some (.optr a)=>bif ba i a&&a.pure then .opt a.den (gI d.1 d.2 (f++[.deref]) a) λe=>.val a e else .no
     |_=>.no
    |none=>.no
   |.val (.ptr _ a) b=>bif ba i a then .opt a.den b λe=>.val a e else .no
   |_=>.no
  |none=>.no
 |.fieldAddr h b m=>match kl tt h,g b with
  |some i,.val (.ptr r (.st a)) b=>bif ba i a&&(eb a m).isSome then .opt a.den b λe=>(match p7 a e m with
   |some n=>.val (.ptr r n.1) (some n.2)
   |none=>.dead) else .no
  |_,_=>.no
 |.slice h b s u none=>match fh tt h with
  |some i=>match g b with
   |.val (.bb r a) j=>bif ba i a then
    .opt c7 ((va (s.map g) 0).bind λl=>(va (u.map g) j.length).bind λp=>(gd l p j.length).map λ_=>(l,p)) (λn=>.val (.bb r a) ((j.take n.2).drop n.1)) else .no
   |.ref id f=>match au k id with
    |some d=>match dR d.1 f with
     |some (.osl a)=>bif ba i a then
      .opt c7 ((gI d.1 d.2 f (.osl a)).bind λj=>(va (s.map g) 0).bind λl=>(va (u.map g) j.length).bind λp=>(gd l p j.length).bind λ_=>(uc j.length).map λ_=>(l,p)) (λn=>.view id f n.1 n.2) else .no
     |_=>.no
    |none=>.no
   |_=>.no
  |none=>.no
 |.makeSlice h l o=>match fh tt h,au z w,au k w with
  |some i,some (.osl a),none=>match kS a,g l,g o with
   |some y,.val (.int _) l,.val (.int _) o=>bif ba i a&&Nat.ble a.size 2000 then
    .new Nat (dV l o) (λm=>⟨.osl a,List.replicate m y⟩) w else .no
   |_,_,_=>.no
  |_,_,_=>.no
 |.index h b q=>match au tt h,g b,g q with
  |some .str,.cv (.string t),.val (.int _) m=>.opt Int (pg t m) (.val (.int .u8))
  |some .str,.val .str t,.val (.int _) m=>.opt Int (pg t m) (.val (.int .u8))
  |_,_,_=>.no
 |.lookup h b c B=>match jR tt h,g b,g c with
  |some i,.ref id f,.val (.int .i64) c=>match au k id with
   |some d=>match dR d.1 f with
    |some (.mp a)=>match kS a with
     |some y=>bif ba i a then .opt (Option (List (Int×a.den)×Nat)) (gI d.1 d.2 f (.mp a)) λx=>CF a x y c B else .no
     |none=>.no
    |_=>.no
   |none=>.no
  |_,_,_=>.no
 |.call o=>match o.callee,o.args.toList,o.argTypes.toList with
  |.builtin .len,[b],[h]=>match fh tt h,g b with
   |some _,.ref id f=>match au k id with
    |some d=>match dR d.1 f with
     |some (.osl a)=>.opt (List a.den) (gI d.1 d.2 f (.osl a)) λj=>.val (.int .i64) (j.length:Int)
     |_=>.no
    |none=>.no
   |none,.ref id f=>match jR tt h,au k id with
    |some _,some d=>match dR d.1 f with
     |some (.mp a)=>.opt (Option (List (Int×a.den)×Nat)) (gI d.1 d.2 f (.mp a)) λx=>.val (.int .i64) (vZ x)
     |_=>.no
    |_,_=>.no
   |_,_=>.no
  |_,_,_=>.no
 |_=>.no
def Kk:∀{t:aj} {y:t.den} {b:Nat},(eb t b).isSome=true->∃d,p7 t y b=some d
 |.pr e c,y,0,_=>⟨_,rfl⟩
 |.pr e c,y,b+1,a=>by
  simp only[eb] at a;split at a
  ·rename_i d f;exact Kk (t:=c) (by rw[f];rfl)
  cases a
 |.int _,_,_,a=>by cases a
 |.bool,_,_,a=>by cases a
 |.str,_,_,a=>by cases a
 |.bb _ _,_,_,a=>by cases a
 |.ptr _ _,_,_,a=>by cases a
 |.osl _,_,_,a=>by cases a
 |.optr _,_,_,a=>by cases a
 |.st _,_,_,a=>by cases a
 |.nil,_,_,a=>by cases a
 |.di,_,_,a=>by cases a
def D8.K (g:D8) (b:ao->List (Nat×aH)->Prop):Prop:=
 match g with
 |.dw e=>b e []
 |.opt _ c f=>∃a,c=some a/\b (f a) []
 |.new _ c h d=>∃a,c=some a/\b (.ref d []) [(d,h a)]
 |.no=>False
def Fm {tt:List (TypeId×aj)} {R:ao->List (Nat×aH)->Prop} (a:(jn tt k e F b N).K R):(fl tt k e F b N).K R:=by
 unfold jn at a;split at a
 ·rename_i N r m j ad;simp only[fl];split at a
  case h_2=>exact a.elim
  rename_i q m U j i W;simp only[i,W];split at a
  ·rename_i z;subst z;split at a
   ·simp only[kF,if_true];exact⟨_,⟨trivial,rfl⟩,a⟩
   ·simp only[kF,if_true];exact⟨_,⟨trivial,rfl⟩,a⟩
   ·simp only[kF,if_true];exact⟨_,⟨trivial,rfl⟩,a⟩
   ·obtain⟨x,g,f⟩:=a;unfold gL at g;split at g
    ·rename_i c;cases g;simp only[kF,if_true];exact⟨_,⟨c,rfl⟩,f⟩
    cases g
   ·obtain⟨x,g,f⟩:=a;unfold gM at g;split at g
    ·rename_i c;cases g;simp only[kF,if_true];exact⟨_,⟨c,rfl⟩,f⟩
    cases g
   ·obtain⟨x,g,f⟩:=a;unfold gN at g;split at g
    ·rename_i c;cases g;exact⟨_,⟨c,rfl⟩,f⟩
    cases g
   ·obtain⟨x,g,f⟩:=a;unfold dk at g;split at g
    ·rename_i c;cases g;exact⟨_,⟨c,rfl⟩,f⟩
    cases g
   ·simp only[kF,if_true];exact⟨_,⟨trivial,rfl⟩,a⟩
   ·simp only[kF,if_true];exact⟨_,⟨trivial,rfl⟩,a⟩
   ·simp only[kF,if_true];exact⟨_,⟨trivial,rfl⟩,a⟩
   ·simp only[kF,if_true];exact⟨_,⟨trivial,rfl⟩,a⟩
   exact a.elim
  split at a
  ·obtain⟨x,g,f⟩:=a;unfold gN at g;split at g
   ·rename_i c;cases g;exact⟨_,⟨c,rfl⟩,f⟩
   cases g
  ·obtain⟨x,g,f⟩:=a;unfold dk at g;split at g
   ·rename_i c;cases g;exact⟨_,⟨c,rfl⟩,f⟩
   cases g
  exact a.elim
 ·rename_i r m;simp only[fl];split at a
  case h_2=>exact a.elim
  rename_i q m i;rw[i];exact⟨_,rfl,a⟩
 ·rename_i V z m;simp only[fl,Ax];split at a
  case h_2=>exact a.elim
  rename_i U q an m al o i;rw[al,o,i];exact⟨_,rfl,a⟩
 ·rename_i m;simp only[fl,tV];split at a
  case h_2=>exact a.elim
  rename_i G h m i;rw[i];obtain⟨j,rfl,f⟩:=a;exact⟨j,rfl,f⟩
 ·rename_i r m T;simp only[fl,tG];split at a
  case h_2=>exact a.elim
  rename_i l q T al o;rw[al,o];simp only;split at a
  ·rename_i G h E i;rw[i];simp only;cases d:ba l h with
   |false=>rw[d] at a;exact a.elim
   |true=>
   rw[d] at a;obtain⟨j,c,f⟩:=a;exact⟨j,c,f⟩
  ·rename_i id B i;rw[i];simp only;split at a
   case h_2=>exact a.elim
   rename_i t n;rw[n];simp only;split at a
   case h_2=>exact a.elim
   rename_i h p;rw[p];simp only;cases d:ba l h with
   |false=>rw[d] at a;exact a.elim
   |true=>
   rw[d] at a;obtain⟨j,c,f⟩:=a;obtain⟨E,P,c⟩:=dp.1 c;obtain⟨u,v⟩:=KN c;exact⟨(E,j),⟨ho P,u,v⟩,f⟩
  ·rename_i id Z X i;rw[i];simp only;split at a
   case h_2=>exact a.elim
   rename_i t n;obtain⟨a0,m⟩:=t;rw[n];simp only at a|-;split at a
   case h_2=>exact a.elim
   rename_i h;simp only[dR];cases d:ba l h with
   |false=>rw[d] at a;exact a.elim
   |true=>
   rw[d] at a;obtain⟨q,Y,f⟩:=a;obtain⟨u,v⟩:=KN Y;exact⟨(m,q),⟨⟨rfl,rfl⟩,u,v⟩,f⟩
  exact a.elim
 ·rename_i r m;simp only[fl,tM];split at a
  case h_2=>exact a.elim
  rename_i l al;rw[al];simp only;split at a
  ·rename_i id B i;rw[i];simp only;split at a
   case h_2=>exact a.elim
   rename_i t n;rw[n];simp only;split at a
   case h_2=>exact a.elim
   rename_i h p;rw[p];simp only[ui];cases d:(ba l h&&h.pure) with
   |false=>rw[d] at a;exact a.elim
   |true=>
   rw[d] at a;simp only[bp] at d;rw[d.1,d.2];obtain⟨j,c,f⟩:=a;exact⟨j,ho c,f⟩
  ·rename_i id B i;rw[i];simp only;split at a
   case h_2=>exact a.elim
   rename_i t n;rw[n];simp only;split at a
   case h_2=>exact a.elim
   rename_i h p;rw[p];simp only[ui];cases d:(ba l h&&h.pure) with
   |false=>rw[d] at a;exact a.elim
   |true=>
   rw[d] at a;simp only[bp] at d;rw[d.1,d.2];obtain⟨j,c,f⟩:=a;exact⟨j,ho c,f⟩
  ·rename_i G h m i;rw[i];cases d:ba l h with
   |false=>rw[d] at a;exact a.elim
   |true=>
   rw[d] at a;obtain⟨j,rfl,f⟩:=a;simp only[d,cond_true];exact f
  exact a.elim
 ·rename_i r m Q;simp only[fl,tw];split at a
  case h_2=>exact a.elim
  rename_i l G h m al i;rw[al,i];cases d:(ba l h&&(eb h Q).isSome) with
  |false=>rw[d] at a;exact a.elim
  |true=>
  rw[d] at a;simp only[bp] at d;obtain⟨j,rfl,f⟩:=a;obtain⟨av,S⟩:=Kk (y:=j) d.2;simp only[S] at f;simp only[d.1,cond_true,S];exact f
 ·rename_i r m Z X;simp only[fl,ur];split at a
  case h_2=>exact a.elim
  rename_i l al;rw[al];simp only;split at a
  ·rename_i G h E i;rw[i];simp only;cases d:ba l h with
   |false=>rw[d] at a;exact a.elim
   |true=>
   rw[d] at a;obtain⟨j,c,f⟩:=a;obtain⟨w,M,c⟩:=dp.1 c;obtain⟨z,L,c⟩:=dp.1 c;obtain⟨ab,O,rfl⟩:=er.1 c;obtain⟨u,v⟩:=K9 O;exact⟨(w,z),⟨Ar M,Ar L,u,v⟩,f⟩
  ·rename_i id B i;rw[i];simp only;split at a
   case h_2=>exact a.elim
   rename_i t n;rw[n];simp only;split at a
   case h_2=>exact a.elim
   rename_i h p;rw[p];simp only;cases d:ba l h with
   |false=>rw[d] at a;exact a.elim
   |true=>
   rw[d] at a;obtain⟨j,c,f⟩:=a;obtain⟨E,P,c⟩:=dp.1 c;obtain⟨w,M,c⟩:=dp.1 c;obtain⟨z,L,c⟩:=dp.1 c;obtain⟨ab,O,c⟩:=dp.1 c;obtain⟨fc,am,rfl⟩:=er.1 c;obtain⟨u,v⟩:=K9 O;exact⟨(E,w,z),⟨ho P,Ar M,Ar L,u,v⟩,f⟩
  exact a.elim
 ·rename_i r w C;simp only[fl,tQ];split at a
  case h_2=>exact a.elim
  rename_i l h al o s;rw[al,o,s];simp only;split at a
  case h_2=>exact a.elim
  rename_i x q w U C A D I;rw[A,D,I];simp only;cases d:(ba l h&&Nat.ble h.size 2000) with
  |false=>rw[d] at a;exact a.elim
  |true=>
  rw[d] at a;obtain⟨j,c,f⟩:=a;unfold dV at c;split at c
  ·rename_i J;cases c;exact⟨(w.toNat,C.toNat),⟨(qJ J.1).symm,(qJ (Int.le_trans J.1 J.2.1)).symm,by show w.toNat<=C.toNat;omega,by show C.toNat<=fm;omega⟩,f⟩
  cases c
 ·rename_i r m T;simp only[fl,DD];split at a
  ·rename_i V q Q al o s;rw[al,o,s];obtain⟨H,d,f⟩:=a;exact⟨H,d,f⟩
  ·rename_i V q Q al o s;rw[al,o,s];obtain⟨H,d,f⟩:=a;exact⟨H,d,f⟩
  exact a.elim
 ·rename_i r m q ap;simp only[fl,tN];split at a
  case h_2=>exact a.elim
  rename_i l id B q al o s;rw[al,o,s];simp only;split at a
  case h_2=>exact a.elim
  rename_i t n;rw[n];simp only;split at a
  case h_2=>exact a.elim
  rename_i h p;rw[p];simp only;split at a
  case h_2=>exact a.elim
  rename_i x g;rw[g];simp only;cases d:ba l h with
  |false=>rw[d] at a;exact a.elim
  |true=>
  rw[d] at a;obtain⟨j,c,f⟩:=a;exact⟨j,ho c,f⟩
 ·rename_i C;simp only[fl];split at a
  ·rename_i m r al o s;rw[al,o,s];simp only;split at a
   ·rename_i l id B A D;rw[A,D];simp only[tL,A];split at a
    case h_2=>exact a.elim
    rename_i t n;rw[n];simp only;split at a
    case h_2=>exact a.elim
    rename_i h p;rw[p];obtain⟨j,c,f⟩:=a;exact⟨j,ho c,f⟩
   ·rename_i id B A D;rw[A,D];simp only[tS];split at a
    case h_2=>exact a.elim
    rename_i l t I n;rw[I,n];simp only;split at a
    case h_2=>exact a.elim
    rename_i h p;rw[p];obtain⟨j,c,f⟩:=a;exact⟨j,ho c,f⟩
   exact a.elim
  exact a.elim
 exact a.elim
def h6 {e:Type} (c d:List e) (a b:Nat):List e:=c.take a++(d.take (b-a)++c.drop (a+min d.length (b-a)))
end
section
def yB:ao->Bool
 |.val _ _=>true
 |_=>false
def F5:ao->Bool
 |.val _ _=>true
 |.dv _ a=>a.all yB
 |_=>false
def F6 (b:F5 d=true):∀id∈d.ids,False:=by
 intro id a;cases d with
 |val g f=>simp[ao.ids] at a
 |dv h c=>
  have b:c.all yB=true:=b;have:∀c:List ao,c.all yB=true->∀id∈ao.mZ c,False:=by
   intro c
   induction c with
   |nil=>intro _ id a;simp[ao.mZ] at a
   |cons d c e=>
    intro b id a;simp only[ss,bp] at b;simp only[ao.mZ,eN] at a;rcases a with a|a
    ·cases d with
     |val g f=>simp[ao.ids] at a
     |_=>cases b.1
    exact e b.2 id a
  exact this c b id a
 |_=>cases b
def oe (C:dD) (c:List (Nat×ao)):Prop:=
 (∀a,C.I0 a\/C.B a->a<C.w0.heap.size/\¬C.F0 a)/\
 ∀b∈c,b.1∈C.pin/\F5 b.2=true/\bL (bj C.I0 C.B) C.w0 [] (λ_=>[]) (λ_=>[]) b.2 (C.vs b.1)
section
variable {E:eh} {C:dD}
def oe.nil (b:∀a,C.I0 a\/C.B a->a<C.w0.heap.size/\¬C.F0 a):oe C []:=⟨b,λc b=>by cases b⟩
def Ta (b c:List (Nat×ao)) (a:Nat):gt (b++c) a=match au b a with|some d=>d|none=>gt c a:=by unfold gt;rw[jo];cases au b a<;>rfl
def yG {e:Type}:∀{c:List (Nat×e)} {b:Nat} {d:e},au c b=some d->(b,d)∈c
 |[],_,_,a=>by cases a
 |(g,v0)::c,b,d,a=>by
  rw[b1] at a;split at a
  ·rename_i f;cases a;subst f;exact jB ..
  exact fk _ (yG a)
def ff.kg (f:oe C D) {j:adW} (n:ff C i j v):ff C ⟨D++i.g,i.h⟩ j v:=by
 obtain⟨k,w,m,b⟩:=n;refine⟨k,w,m,{b with tmp:=λc=>?_}⟩;show bL _ _ _ _ _ (gt (D++i.g) c) _;rw[Ta];split
 ·rename_i l s;obtain⟨o,p,d⟩:=f.2 _ (yG s);have d:bL (bj C.I0 C.B) C.w0 [] (λ_=>[]) (λ_=>[]) l (C.vs c):=d;rw[b.pin c o];refine d.rO (λt a e=>?_) (λid r=>(F6 p id r).elim);have q:C.I0 a\/C.B a:=mq e;obtain⟨ax,u⟩:=f.1 a q;refine⟨?_,bT.of_heap (b.frame a ax u)⟩;cases t
  ·exact b.i0 a e
  exact e.imp (b.i0 a) id
 exact b.tmp c
def J.kg {d:List (Nat×ao)} (k:oe C d) {c:Code} {a:aQ} {b:Exit->aQ->Prop} (f:J E C c ⟨d++a.g,a.h⟩ b):J E C c a b:=
 λe l i j=>f e l (i.kg k) j
def rC (a:List (Nat×ao)):ad4->Option (List (Nat×ao))
 |[]=>some []
 |k::c=>match gt a k with
  |.val g f=>(rC a c).map λb=>(k,.val g f)::b
  |.dv e d=>bif d.all yB then(rC a c).map λb=>(k,.dv e d)::b else none
  |_=>none
def FY {l:List (Nat×ao)}:∀{j:ad4} {d:List (Nat×ao)},rC l j=some d->∀c∈d,c.1∈j/\F5 c.2=true/\gt l c.1=c.2
 |[],d,a,c,b=>by cases a;cases b
 |k::j,d,a,c,b=>by
  simp only[rC] at a;split at a
  ·rename_i q p i;obtain⟨n,h,rfl⟩:=er.1 a;rcases dx.1 b with rfl|b
   ·exact⟨jB ..,rfl,i⟩
   obtain⟨e,f⟩:=FY h c b;exact⟨fk _ e,f⟩
  ·rename_i o m i;cases g:m.all yB with
   |false=>rw[g] at a;cases a
   |true=>
   rw[g] at a;obtain⟨n,h,rfl⟩:=er.1 a;rcases dx.1 b with rfl|b
   ·exact⟨jB ..,g,i⟩
   obtain⟨e,f⟩:=FY h c b;exact⟨fk _ e,f⟩
  cases a
def J.keep {N:Code} {L:List (Nat×ao)} {M:Exit->aQ->Prop} (r:oe C D) (an:rC i.g f=some L) (d:∀l:dD,l.n=C.n->l.pin=f++C.pin->oe l (L++D)->(∀u,sG C u->sG l u)->(j2 E C.I0 C.w0->j2 E l.I0 l.w0)->J E l N i M):J E C N i M:=by
 rintro v y ⟨z,P,A,b⟩ Z
 let l:dD:={I0:=z,B:=C.B,F0:=λa=>∃id e,au i.h id=some e/\a∈A id,w0:=y,n:=C.n,pin:=f++C.pin,vs:=λq=>v.tmps.getD q undef}
 have X:bC l i v.tmps y z P A:=
  {n:=b.n,i0:=λ_ d=>d,i1:=λ_ d=>.inl d,ib:=b.ib,tree:=λid e k=>⟨(b.tree id e k).1,(b.tree id e k).2.1,λa c=>⟨((b.tree id e k).2.2 a c).1,((b.tree id e k).2.2 a c).2.1,((b.tree id e k).2.2 a c).2.2.1,.inr ⟨id,e,k,c⟩⟩⟩,dis:=b.dis,tmp:=b.tmp,frame:=λ_ _ _=>rfl,evo:=λ_ _=>.refl _ _,size:=a2 _,os:=rfl,tape:=rfl,output:=rfl,pin:=λq _=>rfl}
 have am:oe l (L++D):=by
  refine⟨λa c=>⟨b.ib a c,?_⟩,λx p=>?_⟩
  ·rintro⟨id,e,k,Y⟩;obtain⟨ax,t,_⟩:=(b.tree id e k).2.2 a Y;exact c.elim ax t
  rcases eN.1 p with p|p
  ·obtain⟨m,o,F⟩:=FY an x p;refine⟨eN.2 (.inl m),o,?_⟩;have:=b.tmp x.1;rw[F] at this;exact this.rO (λO a s=>⟨s,bT.refl _ _⟩) (λid H=>(F6 o id H).elim)
  obtain⟨m,o,F⟩:=r.2 x p;refine⟨eN.2 (.inr m),o,?_⟩;show bL _ _ _ _ _ _ (v.tmps.getD x.1 undef);rw[b.pin _ m];refine F.rO (λO a s=>?_) (λid H=>(F6 o id H).elim);obtain⟨ax,t⟩:=r.1 a (mq s);refine⟨?_,bT.of_heap (b.frame a ax t)⟩;cases O
  ·exact b.i0 a s
  exact s.imp (b.i0 a) id
 have av:∀u,sG C u->sG l u:=by
  rintro(_|⟨q,c1,c2⟩) ap
  ·trivial
  obtain⟨Q,R,a,K,co,bs,S,T,bB,ce⟩:=ap;refine⟨lw _ Q,λw I=>lw _ (R w I),a,K,co,(b.pin q Q).trans bs,he S b.size,?_,?_,?_⟩
  ·rintro⟨id,e,k,c⟩;rcases((b.tree id e k).2.2 a c).2.2.2 with m|m
   ·omega
   exact T m
  ·have c:=b.frame a S T;rw[<-bB];unfold World.cell?;rw[show y.heap[(⟨a,K,none⟩:Addr).block]?=C.w0.heap[(⟨a,K,none⟩:Addr).block]? from c]
  rw[ce];exact h3 λw I=>(b.pin w (R w I)).symm
 refine wp_mono (d l rfl rfl am av (λW=>b.glob r.1 W) v y ⟨z,P,A,X⟩ Z) ?_;rintro cv cs dl ⟨ci,p,⟨U,bl,V,j⟩,ab⟩;have G:∀a,l.F0 a->C.w0.heap.size<=a\/C.F0 a:=(by rintro a ⟨id,e,k,c⟩;exact((b.tree id e k).2.2 a c).2.2.2);refine⟨ci,p,⟨U,bl,V,?_⟩,ab⟩;refine{n:=j.n,i0:=λa c=>j.i0 a (b.i0 a c),i1:=λa c=>?_,ib:=j.ib,tree:=λid e k=>?_,dis:=j.dis,tmp:=j.tmp,frame:=λa m o=>?_,evo:=λa c=>(b.evo a c).trans (j.evo a (he c b.size)),size:=dh b.size j.size,os:=j.os.trans b.os,tape:=j.tape.trans b.tape,output:=j.output.trans b.output,pin:=λq r=>?_}
 ·rcases j.i1 a c with d|d|d
  ·exact b.i1 a d
  ·exact .inr (.inl (dh b.size d))
  exact .inr (G a d)
 ·obtain⟨ax,t,a0⟩:=j.tree id e k;refine⟨ax,t,λa c=>?_⟩;obtain⟨a3,a4,bd,aR⟩:=a0 a c;refine⟨a3,a4,bd,?_⟩;rcases aR with d|d
  ·exact .inl (dh b.size d)
  exact G a d
 ·refine(j.frame a (he m b.size) ?_).trans (b.frame a m o);intro ad;rcases G a ad with d|d
  ·omega
  exact o d
 rw[j.pin q (eN.2 (.inr r))];exact b.pin q r
end
end
structure bu where
 d:Option (Nat×ao)
 S:ad4
 keep:List (Nat×List a5)
 put:List (Nat×aH)
variable{p:bu}
def mm (a:ad4) (c:List (Nat×List a5)) (b:List (Nat×ao)):List (Nat×ao):=match a with
 |[]=>b
 |_=>kill a c b
def p1 (a:ad4) (b:List (Nat×aH)):List (Nat×aH):=match a with
 |[]=>b
 |_=>del a b
def bu.app (a:bu) (b:aQ):aQ:=⟨match a.d with
 |some c=>c::mm a.S a.keep b.g
 |none=>mm a.S a.keep b.g,a.put++p1 a.S b.h⟩
def TD (d:List (Nat×List a5)) (a:ao):eu [] d a=a:=by
 have b:∀a,dO [] d a=a:=λa=>(by have:(a.ids.any λc=>du c [])=false:=(by rw[uK];intro c _;simp[du]);simp only[dO,ao.ej,this,Bool.false_and,cond_false]);cases a with
 |dM e=>simp only[eu,h3 (λa _=>b a),List.map_id']
 |_=>exact b _
def KZ (c:List (Nat×List a5)):∀b:List (Nat×ao),kill [] c b=b
 |[]=>rfl
 |(k,a)::b=>by have:=KZ c b;simp only[kill,fr,TD] at this|-;rw[this]
def JI:∀a:List (Nat×aH),del [] a=a
 |[]=>rfl
 |x::a=>by have:=JI a;simp only[del] at this|-;rw[jd,ai (by simp[du]),this]
theorem rD (a:ad4) (c:List (Nat×List a5)) (b:List (Nat×ao)):mm a c b=kill a c b:=by
 cases a
 ·exact(KZ c b).symm
 rfl
theorem vI (a:ad4) (b:List (Nat×aH)):p1 a b=del a b:=by
 cases a
 ·exact(JI b).symm
 rfl
def qy {k:Type} (tt:List (TypeId×aj)) (f:List (Nat×aH)) (m:TypeId) (q v:ao) (e:bu->Option k):Option k:=
 match qq f q with
 |none=>none
 |some (
  id,p)=>match au f id,au tt m with
  |some a,some o=>match dR a.1 p with
   |none=>none
   |some b=>bif ba o b then match v with
    |.ref c g=>match au f c with
     |some l=>bif Nat.beq id c then none else(gI l.1 l.2 g b).bind λh=>(li a.1 a.2 p b h).bind λd=>e ⟨none,[id,c],[(id,p)],[(id,⟨a.1,d⟩)]⟩
     |none=>none
    |.app c g i j n=>match gS (τ:=.osl i) b j with
     |some _=>bif Nat.beq c id&&kM g p then(gI a.1 a.2 p (.osl i)).bind λr=>(li a.1 a.2 p (.osl i) (r++j)).bind λd=>e ⟨none,id::n,[(id,p)],[(id,⟨a.1,d⟩)]⟩ else none
     |none=>none
    |v=>match coe b v with
     |some h=>(li a.1 a.2 p b h).bind λd=>e ⟨none,[id],[(id,p)],[(id,⟨a.1,d⟩)]⟩
     |none=>none
   else none
  |_,_=>none
theorem Zy {s:a} {o:bu->Option a} {tt:List (TypeId×aj)} (b:qy tt i.h c t d o=some s) (m:∀p,o p=some s->u (p.app i)):(DC tt i c t d).K u:=by
 unfold qy at b;unfold DC;split at b
 ·cases b
 rename_i id F A;rw[A];simp only;split at b
 case h_2=>cases b
 rename_i L G B z;obtain⟨O,N⟩:=L;rw[B,z];simp only at b|-;split at b
 ·cases b
 rename_i I E;rw[E];simp only;cases q:ba G I with
 |false=>rw[q] at b;cases b
 |true=>
 rw[q] at b;simp only[cond_true] at b|-;split at b
 ·rename_i f g;split at b
  case h_2=>cases b
  rename_i J C;obtain⟨P,M⟩:=J;cases e:Nat.beq id f with
  |true=>rw[e] at b;cases b
  |false=>
  rw[e] at b;obtain⟨n,j,b⟩:=dp.1 b;obtain⟨l,k,b⟩:=dp.1 b;simp only[C,e,cond_false];exact⟨(n,l),⟨ho j,lR k⟩,m _ b⟩
 ·rename_i f g w v r;split at b
  case h_2=>cases b
  rename_i n j;cases jk j;cases e:(Nat.beq f id&&kM g F) with
  |false=>rw[e] at b;cases b
  |true=>
  rw[e] at b;simp only[bp] at e;obtain⟨H,D,b⟩:=dp.1 b;obtain⟨l,k,b⟩:=dp.1 b;simp only[dif_pos];exact⟨(H,l),⟨eF e.1,kM.ok e.2,ho D,lR k⟩,m _ b⟩
 rename_i d x y;split at b
 case h_2=>cases b
 rename_i n j;obtain⟨l,k,b⟩:=dp.1 b;split
 ·rename_i f g;exact(x f g rfl).elim
 ·rename_i f g w v r;exact(y f g w v r rfl).elim
 rw[j];exact⟨l,lR k,m _ b⟩
def j0 (e:List (Nat×aH)) (a:aj) (i:ao):Option (List a.den):=
 match i with
 |.val (.bb _ h) d=>gS (τ:=.osl h) (.osl a) d
 |.cv (.slice none 0 0)=>some []
 |.ref id c=>match au e id with
  |some b=>bif a.pure then gI b.1 b.2 c (.osl a) else none
  |none=>none
 |.view id c g f=>match au e id with
  |some b=>bif a.pure then(gI b.1 b.2 c (.osl a)).bind λd=>some ((d.take f).drop g) else none
  |none=>none
 |_=>none
def kE.D0 {c:aj} (e:kE c) (b:List c.den):Prop:=
 match e with
 |.dw f=>f=b
 |.part _ g d=>∃a,g a/\d a=b
 |.bad=>False
def zJ {f:List n.den} (a:j0 e n d=some f):(qC e n d).D0 f:=by
 unfold j0 at a;unfold qC;split at a
 ·rename_i p q h;cases jk a;simp only[dif_pos];rfl
 ·cases a;rfl
 ·rename_i id j;split at a
  case h_2=>cases a
  rename_i g c;obtain⟨l,k⟩:=g;simp only[c];cases b:n.pure with
  |false=>rw[b] at a;cases a
  |true=>rw[b] at a;exact⟨f,ho a,rfl⟩
 ·rename_i id j o m;split at a
  case h_2=>cases a
  rename_i g c;obtain⟨l,k⟩:=g;simp only[c];cases b:n.pure with
  |false=>rw[b] at a;cases a
  |true=>
   rw[b] at a;obtain⟨h,i,a⟩:=dp.1 a;cases a;exact⟨h,ho i,rfl⟩
 cases a
def kE.D0.to {d:aj} {c:kE d} {a:List d.den} (b:c.D0 a) {g:Nat->Prop} {f:List d.den->aQ} {e:aQ->Prop} (h:g a.length) (i:e (f a)):(c.to g f).K e:=by
 cases c with
 |dw l=>obtain rfl:l=a:=b;exact⟨(),h,i⟩
 |part n o m=>obtain⟨k,j,rfl⟩:=b;exact⟨k,⟨j,h⟩,i⟩
 |bad=>exact b.elim
def nD {n:Type} (tt:List (TypeId×aj)) (p:List (Nat×aj)) (d:List (Nat×aH)) (b:Nat) (o:TypeId) (q g:ao) (f:bu->Option n):Option n:=
 match fh tt o with
 |none=>none
 |some i=>
  match q with
  |.ref id []=>match au d id with
   |some ⟨.osl a,e⟩=>bif ba i a&&Nat.ble a.size 1300 then
    match a.pure with
    |true=>(j0 d a g).bind λc=>(bN (e.length+c.length)).bind λ_=>f ⟨some (b,.ref b []),[id,b],[],[(b,⟨.osl a,e++c⟩)]⟩
    |false=>match g with
     |.ref k []=>match au d k with
      |some r=>match gS (.osl a) r.2 with
       |some c=>bif Nat.beq id k then none else(bN (e.length+List.length (α:=a.den) c)).bind λ_=>f ⟨some (b,.ref b []),[id,k,b],[],[(b,⟨.osl a,List.append (α:=a.den) e c⟩)]⟩
       |none=>none
      |none=>none
     |_=>none
    else none
   |_=>none
  |.ref id h=>match au d id,au d b with
   |some j,none=>match dR j.1 h with
    |some (.osl a)=>bif ba i a&&Nat.ble a.size 1300&&a.jq then
     (gI j.1 j.2 h (.osl a)).bind λe=>(j0 d a g).bind λc=>(bN (List.length (α:=a.den) e+c.length)).bind λ_=>
      f ⟨some (b,.app id h a c [b]),[id],[(id,h),(id,[])],[(b,⟨.di,()⟩),(id,j)]⟩
     else none
    |_=>none
   |_,_=>none
  |.view id [] m l=>match au d id with
   |some ⟨.osl a,e⟩=>bif ba i a&&Nat.ble a.size 1300 then
    (j0 d a g).bind λc=>(bN (List.length (α:=a.den) ((e.take l).drop m)+c.length)).bind λ_=>f ⟨some (b,.ref b []),[id,b],[],[(b,⟨.osl a,(e.take l).drop m++c⟩)]⟩
    else none
   |_=>none
  |.cv (.slice none 0 0)=>match au p b with
   |some (.osl a)=>bif ba i a&&Nat.ble a.size 1300 then
    (j0 d a g).bind λc=>(bN c.length).bind λ_=>f ⟨some (b,.ref b []),[b],[],[(b,⟨.osl a,c⟩)]⟩
    else none
   |_=>none
  |_=>none
def Qk {A:a} {x:bu->Option a} {tt:List (TypeId×aj)} (e:nD tt k i.h b c d t x=some A) (m:∀y,x y=some A->u (y.app i)):(Al tt k i b c d t).K u:=by
 unfold nD at e;unfold Al;split at e
 ·cases e
 rename_i s F;rw[F];simp only;split at e
 ·rename_i id;simp only;split at e
  case h_2=>cases e
  rename_i l v o;rw[o];simp only;cases g:(ba s l&&Nat.ble l.size 1300) with
  |false=>rw[g] at e;cases e
  |true=>
  rw[g] at e;simp only[cond_true] at e|-;split at e
  ·rename_i n;rw[n];obtain⟨q,f,e⟩:=dp.1 e;obtain⟨_,j,e⟩:=dp.1 e;exact(zJ f).to (vV j) (m _ e)
  rename_i n;rw[n];split at e
  case h_2=>cases e
  rename_i H;split at e
  case h_2=>cases e
  rename_i M E;obtain⟨V,R⟩:=M;split at e
  case h_2=>cases e
  rename_i q f;cases jk f;cases w:Nat.beq id H with
  |true=>rw[w] at e;cases e
  |false=>
  rw[w] at e;obtain⟨_,j,e⟩:=dp.1 e;simp only[E,dif_pos,w,cond_false];exact⟨(),vV j,m _ e⟩
 ·rename_i id z n;split at e
  case h_2=>cases e
  rename_i L o D;obtain⟨U,S⟩:=L;simp only at e;split at e
  case h_2=>cases e
  rename_i l G;cases g:(ba s l&&Nat.ble l.size 1300&&l.jq) with
  |false=>rw[g] at e;cases e
  |true=>
  rw[g] at e;obtain⟨v,r,e⟩:=dp.1 e;obtain⟨q,f,e⟩:=dp.1 e;obtain⟨_,j,e⟩:=dp.1 e;have j:=vV j;have f:=zJ f;have r:=ho r;cases z with
  |nil=>exact(n rfl).elim
  |cons Q z=>
  simp only[o,D,G,g,cond_true];split
  ·rename_i J p;rw[p] at f;obtain rfl:J=q:=f;exact⟨v,⟨r,j⟩,m _ e⟩
  ·rename_i T W N p;rw[p] at f;obtain⟨I,B,rfl⟩:=f;exact⟨(v,I),⟨r,B,j⟩,m _ e⟩
  rename_i p;rw[p] at f;exact f.elim
 ·rename_i id P O;simp only;split at e
  case h_2=>cases e
  rename_i l v o;rw[o];simp only;cases g:(ba s l&&Nat.ble l.size 1300) with
  |false=>rw[g] at e;cases e
  |true=>
  rw[g] at e;simp only[cond_true] at e|-;obtain⟨q,f,e⟩:=dp.1 e;obtain⟨_,j,e⟩:=dp.1 e;exact(zJ f).to (vV j) (m _ e)
 ·simp only;split at e
  case h_2=>cases e
  rename_i l C;rw[C];simp only;cases g:(ba s l&&Nat.ble l.size 1300) with
  |false=>rw[g] at e;cases e
  |true=>
  rw[g] at e;simp only[cond_true] at e|-;obtain⟨q,f,e⟩:=dp.1 e;obtain⟨_,j,e⟩:=dp.1 e;exact(zJ f).to (vV j) (m _ e)
 cases e
def oD (d:List (Nat×aj)) (c:List (Nat×aH)) (a:Nat) (h:ao):Option bu:=
 match h with
 |.ref id []=>match au c id with
  |some b=>some ⟨some (a,.ref a []),[id,a],[],[(a,b)]⟩
  |none=>none
 |.ref id g=>bif Nat.beq id a then none else some ⟨some (a,.ref id g),[a],[],[]⟩
 |.view id [] f e=>match au c id with
  |some ⟨.osl b,i⟩=>some ⟨some (a,.ref a []),[id,a],[],[(a,⟨.osl b,(i.take e).drop f⟩)]⟩
  |_=>none
 |.cv (.slice none 0 0)=>match au d a with
  |some (.osl b)=>some ⟨some (a,.ref a []),[a],[],[(a,⟨.osl b,[]⟩)]⟩
  |_=>none
 |_=>none
def Qw (a:oD k i.h b d=some p) (e:u (p.app i)):(An k i b d).K u:=by
 unfold oD at a;unfold An;split at a
 ·split at a
  ·rename_i j c;cases a;simp only[c];exact e
  cases a
 ·rename_i id g l;cases f:Nat.beq id b with
  |true=>rw[f] at a;cases a
  |false=>
  rw[f] at a;cases a;cases g with
  |nil=>exact(l rfl).elim
  |cons m g=>simp only[f,cond_false];exact e
 ·split at a
  ·rename_i j n c;cases a;simp only[c];exact e
  cases a
 ·split at a
  ·rename_i j c;cases a;simp only[c];exact e
  cases a
 cases a
section
section
variable {E:eh} {C:dD} {st:aQ} {a:Act} {w w':World} {I:Nat->Prop} {rt:Nat->adY} {fp:Nat->ad4} {o:Oper} {Q:aQ->Prop}
def dA.own {S:ad4} {t:aH} {cs:adY} {f:ad4} {v:Value} {next:Act->World->Prop} {u:Exit->Act->World->Prop} (A:o.dst=some b) (F:C.ok b) (m:bC C st a.tmps w I rt fp) (J:∀r l w',Q r->l.defers=a.defers->ff C r l.tmps w'->next l w') (D:b∈S\/au st.h b=none) (M:(execOp a.eval o).run E.P w=.ok (.value v) w') (e:gQ w w') (N:v=bO t.1 cs) (L:aT (bj I C.B) w' t.1 cs t.2 f) (G:f.Nodup) (j:∀c∈f,(w.heap.size<=c/\c<w'.heap.size)\/∃q∈S,∃R,au st.h q=some R/\c∈fp q) (K:Q ⟨(b,.ref b [])::kill S [] st.g,(b,t)::del S st.h⟩):o.wp E.P a w next u:=by
 have k:=m.bU (l5.one (st:=st) (C:=C) (rt:=rt) (w':=w') (I':=I) (S:=S) (d:=b) (t:=t) (cs:=cs) (f:=f) D e.size e.os e.tape e.output (λc j _=>e.heap c j) (λc j=>(bT.of_heap (e.heap c j)).2) (λ_ i=>i) (λ_ i=>.inl i) L G (λc z=>by
  rcases j c z with⟨x,y⟩|⟨p,H,s,k,n⟩
  ·exact⟨λi=>by have:=m.ib c (.inl i);omega,y,.inl x⟩
  obtain⟨ax,T,O,U⟩:=(m.tree p s k).2.2 c n;exact⟨ax,he O e.size,.inr ⟨p,H,s,k,n⟩⟩))
 unfold Oper.wp;rw[M];show next (a.put o.dst v) w'
 rw[A];refine J _ _ _ K rfl ⟨_,_,_,k.put F (av:=.ref b []) ?_⟩;rw[N];refine .ref (t:=t) (loc:=none) (by rw[jo,b1,ai rfl];rfl) ?_;rw[CK];exact aW.here
def wk (e:List (Nat×aH)) (a:aj):ao->Option (aH×ad4)
 |.val d b=>bif ba a d then some (⟨d,b⟩,[]) else none
 |.cv f=>match hG a f.cells.toList with
  |some b=>some (⟨a,b⟩,[])
  |none=>none
 |.ref id []=>match au e id with
  |some c=>bif ba a c.1 then some (c,[id]) else none
  |none=>none
 |_=>none
theorem M8 {h:dg->Nat->Prop} (m:∀id t,au e id=some t->aT h w t.1 (rt id) t.2 (fp id)) {a:aj} (j:dP s a c) (i:bL h w e rt fp d H) {t:aH} {ids:ad4} (b:wk e a d=some (t,ids)):aT h w t.1 H.cells.toList t.2 (ids.map fp).flatten/\t.1.size=a.size/\∀id∈ids,∃p,au e id=some p:=by
 unfold wk at b;split at b
 ·rename_i r q;cases f:ba a r with
  |false=>grind
  |true=>
   rw[f] at b;cases b;cases i with|val g=>
   rw[nW (j.lay f) g.len g.one];grind [ba.size]
 ·rename_i v;split at b
  ·rename_i q u;cases b;cases i;grind [oK]
  grind
 ·rename_i id;split at b
  ·rename_i o k;cases f:ba a o.1 with
   |false=>grind
   |true=>
    rw[f] at b;cases b;cases i with|ref l n=>
    rw[k] at l;cases l;obtain⟨rfl,rfl,rfl⟩:=aW.e1.1 n;have g:=m id _ k;rw[nW (j.lay f) g.len g.one];grind [List.mem_singleton,ba.size]
  grind
 grind
def lL (e:List (Nat×aH)) (d:Operand->ao) (g:List (Nat×Operand)):aj->Nat->Option (aH×ad4)
 |.pr a h,f=>
  match(match kN g f with
   |none=>match kS a with
    |some i=>some ((⟨a,i⟩:aH),([]:ad4))
    |none=>none
   |some b=>wk e a (d b)),lL e d g h (f+1) with
  |some b,some c=>some (⟨.pr b.1.1 c.1.1,(b.1.2,c.1.2)⟩,b.2++c.2)
  |_,_=>none
 |.nil,_=>some (⟨.nil,()⟩,[])
 |_,_=>none
theorem Lw {p:Program} {g:dg->Nat->Prop} {b:List (Nat×aH)} (z:∀id t,au b id=some t->aT g w t.1 (rt id) t.2 (fp id)) {m:Operand->ao} {h:Operand->Value} (y:∀c,bL g w b rt fp (m c) (h c)) {parts:List (Nat×Operand)} {cells:adY}:∀{u:aj} {n:Nat} {r:List Field} {off:Nat} {zs:adY} {t:aH} {ids:ad4},hz p u r off zs->lL b m parts u n=some (t,ids)->cells.length=off+u.size->(∀d k e,eb u d=some (k,e)->(∀c,kN parts (n+d)=some c->(h c).cells.size=e.size/\(cells.drop (off+dF u d)).take e.size=(h c).cells.toList)/\(kN parts (n+d)=none->(cells.drop (off+dF u d)).take e.size=(zs.drop (dF u d)).take e.size))->aT g w t.1 (cells.drop off) t.2 (ids.map fp).flatten/\t.1.size=u.size/\∀id∈ids,∃u,au b id=some u
 |.pr a q,n,E::O,off,zs,t,ids,o,f,A,i=>by
  simp only[lL] at f;split at f
  case h_2=>cases f
  rename_i c l j C;cases f;obtain⟨F,s,G,⟨K,R,ax,M,N⟩,v⟩:=o;have x:=i 0 _ a rfl;simp only[j6,dF,lv] at x;have H:aT g w c.1.1 ((cells.drop off).take a.size) c.1.2 (c.2.map fp).flatten/\c.1.1.size=a.size/\∀id∈c.2,∃u,au b id=some u:=by
   split at j
   ·rename_i J;split at j
    ·rename_i S D;cases j;obtain⟨L,T,P,Q,_,aR⟩:=uD s D;grind
    grind
   grind [M8]
  have I:=Lw z y (parts:=parts) (cells:=cells) (u:=q) (n:=n+1) (off:=off+a.size) (zs:=zs.drop a.size) (t:=l.1) (ids:=l.2) v C (by grind [aj.size]) (by
   intro d k e B;have:=i (d+1) (.snd::k) e (by simp[eb,B]);grind [List.drop_drop,dF])
  refine⟨⟨(c.2.map fp).flatten,(l.2.map fp).flatten,ac,?_,?_⟩,by grind [aj.size],?_⟩
  ·grind
  ·simp_all
  grind
 |.nil,n,[],off,zs,t,ids,o,f,A,i=>by cases f;exact⟨⟨rfl,by grind [List.drop_eq_nil_iff,aj.size]⟩,rfl,ac⟩
 |.pr _ _,_,[],_,_,_,_,b,_,_,_=>b.elim
 |.nil,_,_::_,_,_,_,_,b,_,_,_=>b.elim
 |.int _,_,_,_,_,_,_,b,_,_,_=>by cases b
 |.bool,_,_,_,_,_,_,b,_,_,_=>by cases b
 |.str,_,_,_,_,_,_,b,_,_,_=>by cases b
 |.bb _ _,_,_,_,_,_,_,b,_,_,_=>by cases b
 |.osl _,_,_,_,_,_,_,b,_,_,_=>by cases b
 |.ptr _ _,_,_,_,_,_,_,b,_,_,_=>by cases b
 |.optr _,_,_,_,_,_,_,b,_,_,_=>by cases b
 |.st _,_,_,_,_,_,_,b,_,_,_=>by cases b
 |.di,_,_,_,_,_,_,b,_,_,_=>by cases b
theorem Lx {z:Program} {h:dg->Nat->Prop} {b:List (Nat×aH)} (l:∀id t,au b id=some t->aT h w t.1 (rt id) t.2 (fp id)) {j:Operand->ao} {i:Operand->Value} (k:∀e,bL h w b rt fp (j e) (i e)) {q:List (Nat×Operand)}:∀{u:aj} {n:Nat} {B:List Field} {p:Nat} {y:adY} {t:aH} {ids:ad4},hz z u B p y->lL b j q u n=some (t,ids)->∀d s g,eb u d=some (s,g)->∀e,kN q (n+d)=some e->(i e).cells.size=g.size
 |.pr a A,n,I::P,p,y,t,ids,E,f,d,s,g,c,e,m=>by
  simp only[lL] at f;split at f
  case h_2=>cases f
  rename_i v x o G;obtain⟨J,C,K,⟨L,Q,ax,N,O⟩,D⟩:=E;cases d with
  |zero=>
   simp only[eb,bS,gm] at c;obtain⟨_,rfl⟩:=c;rw[j6] at m;rw[m] at o;obtain⟨H,M,_⟩:=M8 (t:=v.1) (ids:=v.2) l C (k e) o;have:=H.len;grind
  |succ d=>
   simp only[eb] at c;split at c
   ·rename_i r F;simp only[bS,gm] at c;obtain⟨_,rfl⟩:=c;exact Lx l k (u:=A) (n:=n+1) (t:=x.1) (ids:=x.2) D G d r.1 r.2 F e (by rwa[(U:n+1+d=n+(d+1))])
   grind
 |.pr _ _,_,[],_,_,_,_,b,_,_,_,_,_,_,_=>b.elim
 |.nil,_,_,_,_,_,_,_,_,_,_,_,c,_,_=>by cases c
 |.int _,_,_,_,_,_,_,b,_,_,_,_,_,_,_=>by cases b
 |.bool,_,_,_,_,_,_,b,_,_,_,_,_,_,_=>by cases b
 |.str,_,_,_,_,_,_,b,_,_,_,_,_,_,_=>by cases b
 |.bb _ _,_,_,_,_,_,_,b,_,_,_,_,_,_,_=>by cases b
 |.osl _,_,_,_,_,_,_,b,_,_,_,_,_,_,_=>by cases b
 |.ptr _ _,_,_,_,_,_,_,b,_,_,_,_,_,_,_=>by cases b
 |.optr _,_,_,_,_,_,_,b,_,_,_,_,_,_,_=>by cases b
 |.st _,_,_,_,_,_,_,b,_,_,_,_,_,_,_=>by cases b
 |.di,_,_,_,_,_,_,b,_,_,_,_,_,_,_=>by cases b
theorem QS (ad:o.op=.build c r) (F:kl E.tt c=some y) (cv:ba y n=true\/y=n) (R:k9 r.toList 0=true) (B:∀d∈r.toList,Nat.blt d.1 (e0 n)=true) (O:∀e k b,eb n e=some (k,b)->∀f,kN r.toList e=some f->(a.eval f).cells.size=b.size):∃h g p,hz E.P n h 0 g/\(execOp a.eval o).run E.P w=.ok (.value (.agg p)) w/\p.toList.length=n.size/\(∀e k b,eb n e=some (k,b)->(∀f,kN r.toList (0+e)=some f->(a.eval f).cells.size=b.size/\(p.toList.drop (0+dF n e)).take b.size=(a.eval f).cells.toList)/\(kN r.toList (0+e)=none->(p.toList.drop (0+dF n e)).take b.size=(g.drop (dF n e)).take b.size)):=by
 obtain⟨l,h,g,S,ce,T,V,q,ci⟩:∃l h g,E.P.info? c=some l/\l.size=n.size/\l.zero=some (.agg g)/\E.P.underlying c=some (.struct h)/\hz E.P n h.toList 0 g.toList/\g.size=n.size:=by
  unfold kl at F;split at F
  ·rename_i d6 X;cases F;obtain⟨_,l,h,g,ax,c2,_,dl,ds,d0,d1⟩:=E.ok c _ X;grind [ba.size,hz.lay]
  grind
 have G:=run_places (P:=E.P) w n h.toList 0 g.toList q;simp only[jg] at G;generalize cs:((List.range (e0 n)).map λm=>(dF n m,match eb n m with|some d=>d.2.size|none=>0))=I at G;have v:∀m k b,eb n m=some (k,b)->m<e0 n->I.toArray[m]?=some (dF n m,b.size):=(by grind);obtain⟨p,a4,d2,bd,aR⟩:=yr (λl=>I.toArray[l]?) (r.toList.map λd=>(d.1,a.eval d.2)) g (by
  intro d x;obtain⟨j,C,rfl⟩:=de.1 x;have t:j.1<e0 n:=e4 (B j C);obtain⟨k,b,i⟩:=qm q j.1 t;refine⟨_,_,v _ _ _ i t,O _ _ _ i j.2 ?_,by simp_all [vN]⟩;grind [FSq]) (by
  rw[sz];refine(FT R).imp_of_mem ?_;intro d J x ap t a3 bl c1 d3 al L;have A:d.1<e0 n:=e4 (B d x);have Q:J.1<e0 n:=e4 (B J ap);obtain⟨bs,bB,s⟩:=qm q d.1 A;obtain⟨d4,d5,N⟩:=qm q J.1 Q;rw[v _ _ _ s A] at al;rw[v _ _ _ N Q] at L;cases al;cases L;exact .inl (tx s N t))
 have av:p.toList.length=n.size:=(by grind);refine⟨h.toList,g.toList,p,q,?_,av,?_⟩
 ·have an:(Array.map (λf=>(f.fst,a.eval f.snd)) r).toList=r.toList.map λd=>(d.1,a.eval d.2):=ac;have am:(h.mapM λM=>do Pure.pure (M.offset,<-sizeOf M.type):Sem (Array c7)).run E.P w=.ok I.toArray w:=by
   rw[Array.mapM_eq_mapM_toList,Sem.run_map,G];rfl
  have H:(zeroValue c).run E.P w=.ok (.agg g) w:=(by simp[zeroValue,typeInfo,S,T]);simp only[execOp,ad,Instr.build,Sem.run_bind,H,run_underlying V,Result.andThen_ok,am,an,Value.cells,a4];rfl
 intro e k b i;have Y:e<e0 n:=FA i;simp only[jg];have co:=vN i;refine⟨λf D=>?_,λD=>?_⟩
 ·have Z:=yF D;have H:=O e k b i f D;refine⟨H,?_⟩;apply g4;intro z;rcases bg z b.size with u|u
  ·obtain⟨K,a0⟩:∃K,(a.eval f).cells[z]?=some K:=⟨_,wH U⟩;have:=aR (e,a.eval f) (de.2 ⟨(e,f),Z,rfl⟩) _ _ (v _ _ _ i Y) z K a0;grind
  grind
 apply g4;intro z;rcases bg z b.size with u|u
 ·rw[l0 u,l0 u,jA,jA];simp only[wJ];refine bd _ ?_;intro d x a3 bl al;obtain⟨j,C,rfl⟩:=de.1 x;have ab:=Gd D j C;have A:j.1<e0 n:=e4 (B j C);obtain⟨bs,bB,s⟩:=qm q j.1 A;rw[v _ _ _ s A] at al;cases al;rcases Nat.lt_or_gt_of_ne ab with t|W
  ·have:=tx s i t;omega
  have:=tx i s W;omega
 grind
theorem bC.FD {t:adW} (d:bC C st t w I rt fp):∀{a:ad4},a.Nodup->(∀id∈a,∃b,au st.h id=some b)->(a.map fp).flatten.Nodup
 |[],_,_=>by simp
 |i::a,r,e=>by obtain⟨k,l⟩:=jC.1 r;obtain⟨b,f⟩:=e i ac;simp only[fr,j3];refine iq.2 ⟨(d.tree i b f).2.1,bC.FD d l (λid x=>e id (by grind)),λj m v o c=>?_⟩;subst c;obtain⟨y,q,n⟩:=je.1 o;obtain⟨g,p,rfl⟩:=de.1 q;obtain⟨u,s⟩:=e g (by grind);exact d.dis i g b u f s (λc=>k (c▸p)) j m n
theorem Um (a:b∈(f.map fp).flatten):∃id∈f,b∈fp id:=by grind
def qY {k:Type} (tt:List (TypeId×aj)) (m:List (Nat×aj)) (e:List (Nat×aH)) (h:Operand->ao) (a:Nat) (l:TypeId) (c:List (Nat×Operand)) (g:bu->Option k):Option k:=
 match kl tt l with
 |none=>none
 |some f=>match au m a with
  |some (.st j)=>bif ba f j&&(k9 c 0&&c.all (λi=>Nat.blt i.1 (e0 j))) then match au e a,lL e h c j 0 with
   |none,some (b,d)=>bif h9 d then g ⟨some (a,.ref a []),d,[],[(a,⟨.st b.1,b.2⟩)]⟩ else none
   |_,_=>none
   else none
  |_=>bif k9 c 0&&c.all (λi=>Nat.blt i.1 (e0 f)) then match o2 h c f 0 with
   |some b=>g ⟨some (a,.val (.st b.1) b.2),[],[],[]⟩
   |none=>match au e a,lL e h c f 0 with
    |none,some (b,d)=>bif h9 d then g ⟨some (a,.ref a []),d,[],[(a,⟨.st b.1,b.2⟩)]⟩ else none
    |_,_=>none
   else none
theorem Jh {G:Type} {D:G} {q:bu->Option G} (V:o.op=.build c r) (O:o.dst=some b) (P:C.ok b) (v:kl E.tt c=some y) (A:ba y n=true\/y=n) (p:(k9 r.toList 0&&r.toList.all (λm=>Nat.blt m.1 (e0 n)))=true) (i:(match au st.h b,lL st.h (aV st.g) r.toList n 0 with
  |none,some (d,e)=>bif h9 e then q ⟨some (b,.ref b []),e,[],[(b,⟨.st d.1,d.2⟩)]⟩ else none
  |_,_=>none)=some D)
 (W:∀s,q s=some D->Q (s.app st)):dA E C o st Q:=by
 split at i
 case h_2=>cases i
 rename_i d e R l;cases z:h9 e with
 |false=>grind
 |true=>
 rw[z] at i;simp only[bp,fd] at p;obtain⟨H,J⟩:=p;rintro a w ⟨I,rt,fp,j⟩ next an T
 have x:∀id d,au st.h id=some d->aT (bj I C.B) w d.1 (rt id) d.2 (fp id):=λid d l=>(j.tree id d l).1;obtain⟨K,ad,F,M,X,a3,N⟩:=QS (a:=a) (w:=w) V v A H J (by
  obtain⟨K,ad,_,m⟩:=kl.ok v;intro Z ab am Y k a0;exact Lx x (λk=>j.aV k) (A.elim (λi=>hz.lay i m) (λi=>i▸m)) l Z ab am Y k (by rwa[jg]))
 obtain⟨u,av,L⟩:=Lw x (λk=>j.aV k) (cells:=F.toList) M l U N;rw[lv] at u;refine dA.own (S:=e) (t:=⟨.st d.1,d.2⟩) (cs:=F.toList) (f:=(e.map fp).flatten) O P j T (.inr R) X (gQ.refl w) rfl u (j.FD (h9.ok z) L) (λap p=>?_) ?_
 ·grind
 have:=W _ i;rw[show(bu.mk (some (b,.ref b [])) e [] [(b,⟨.st d.1,d.2⟩)]).app st=⟨(b,.ref b [])::kill e [] st.g,(b,⟨.st d.1,d.2⟩)::del e st.h⟩ by
  show aQ.mk ((b,_)::mm e [] st.g) ([_]++p1 e st.h)=_;rw[rD,vI];rfl] at this
 omega
theorem QI {v:Type} {s:v} {p:bu->Option v} (l:o.op=.build c r) (i:o.dst=some b) (j:C.ok b) (a:qY E.tt k st.h (aV st.g) b c r.toList p=some s) (m:∀q,p q=some s->Q (q.app st)):dA E C o st Q:=by
 unfold qY at a;split at a
 ·cases a
 rename_i t e;split at a
 ·rename_i u x;cases d:(ba t u&&(k9 r.toList 0&&r.toList.all (λn=>Nat.blt n.1 (e0 u)))) with
  |false=>grind
  |true=>
  rw[d] at a;simp only[cond_true] at a;have f:=d;rw[bp] at f;exact Jh l i j e (.inl f.1) f.2 a m
 cases d:(k9 r.toList 0&&r.toList.all (λn=>Nat.blt n.1 (e0 t))) with
 |false=>grind
 |true=>
 rw[d] at a;simp only[cond_true] at a;split at a
 ·rename_i y w;refine dA.eval (an:=[]) i j ?_;rw[l];simp only[fl,w9,e,d,cond_true,w];exact m _ a
 exact Jh l i j e (.inr rfl) d a m
def sR {h:Type} (tt:List (TypeId×aj)) (j:List (Nat×aj)) (f:List (Nat×aH)) (a:Nat) (i:TypeId) (b:ao) (c:bu->Option h):Option h:=
 match au tt i,au f a with
 |some g,none=>match b with
  |.val e b=>bif ba g e then match au j a with
   |some (.ptr .bK _)=>c ⟨some (a,.val (.ptr .bK e) (some b)),[],[],[]⟩
   |_=>c ⟨some (a,.ref a []),[],[],[(a,⟨.optr e,b⟩)]⟩
   else none
  |.ref id []=>match au f id with
   |some d=>bif ba g d.1 then c ⟨some (a,.ref a []),[id],[],[(a,⟨.optr d.1,d.2⟩)]⟩ else none
   |none=>none
  |_=>none
 |_,_=>none
theorem QL {ab:Type} {X:ab} {O:bu->Option ab} (L:o.op=.box c m) (G:o.dst=some b) (H:C.ok b) (i:sR E.tt k st.h b c (aV st.g m) O=some X) (M:∀R,O R=some X->Q (R.app st)):dA E C o st Q:=by
 unfold sR at i;split at i
 case h_2=>cases i
 rename_i y F T;split at i
 ·rename_i D Z r;cases e:ba y D with
  |false=>grind
  |true=>
  rw[e] at i;simp only[cond_true] at i;split at i
  ·rintro a w ⟨I,rt,fp,l⟩ next ad K
   have n:=l.aV m;rw[r] at n;have J:=(E.ok c y F).lay e;generalize N:a.eval m=A at n;cases n with|val u=>
   rename_i z;have s:∀p d,bj I C.B p d->bT w (w.alloc (.cells z.toArray c)) d:=λp d e=>.of_heap ((gQ.alloc w _).heap d (l.ib d (mq e)));have bl:Yields E C st a w I rt fp o (λP W=>Q ⟨(b,P)::st.g,W++st.h⟩):=by
    refine⟨.pointer (some ⟨w.heap.size,0,none⟩),w.alloc (.cells z.toArray c),λd=>I d\/d=w.heap.size,λ_=>[],λ_=>[],.val (.ptr .bK D) (some Z),[],?_,gQ.alloc w _,λ_ i=>.inl i,?_,.nil,?_,M _ i⟩
    ·simp[execOp,L,N,Instr.box,newVar,newRow,nW J u.len u.one]
    ·rintro d (i|rfl)
     ·grind
     simp_all
    refine .val (τ:=.ptr .bK D) (x:=some Z) (cs:=[.pointer (some ⟨w.heap.size,0,none⟩)]) ⟨rfl,w.heap.size,0,z,rfl,.inr rfl,u.len,dU.alloc (λbs A av=>by grind),?_⟩;refine u.mono (λp d e=>⟨?_,s p d e⟩) ac;cases p
    ·exact .inl e
    exact e.imp .inl (λi=>i)
   exact bl.wp l G H (λP W am w' a4 ap bd=>K _ am w' a4 ap bd)
  refine dA.eval (an:=[]) G H ?_;rw[L];simp only[fl,xa,F,T,r,e,cond_true];exact M _ i
 ·rename_i id r;split at i
  case h_2=>cases i
  rename_i j U;cases e:ba y j.1 with
  |false=>grind
  |true=>
  rw[e] at i;rintro a w ⟨I,rt,fp,l⟩ next ad K
  have n:=l.aV m;rw[r] at n;obtain⟨q,ce,Y⟩:=l.tree id j U;have J:=(E.ok c y F).lay e;generalize N:a.eval m=A at n;cases n with|ref V a3=>
  rw[U] at V;cases V;obtain⟨rfl,rfl,rfl⟩:=aW.e1.1 a3;have s:∀d,d<w.heap.size->bT w (w.alloc (.cells (rt id).toArray c)) d:=λd e=>.of_heap ((gQ.alloc w _).heap d e);have bB:aT (bj I C.B) (w.alloc (.cells (rt id).toArray c)) j.1 (rt id) j.2 (fp id):=q.mono (λp d e=>⟨e,s d (l.ib d (mq e))⟩) (λd e=>s d (Y d e).2.2.1);refine dA.own (S:=[id]) (t:=⟨.optr j.1,j.2⟩) (cs:=[.pointer (some ⟨w.heap.size,0,none⟩)]) (f:=w.heap.size::fp id) (v:=.pointer (some ⟨w.heap.size,0,none⟩)) (w':=w.alloc (.cells (rt id).toArray c)) G H l K (.inr T) ?_ (gQ.alloc w _) rfl ⟨w.heap.size,0,fp id,rt id,rfl,rfl,q.len,dU.alloc (λbs A av=>by grind),h1.alloc (by simp[q.len]),bB⟩ (jC.2 ⟨λa0=>Nat.lt_irrefl _ (Y _ a0).2.2.1,ce⟩) ?_ ?_
  ·simp[execOp,L,N,Instr.box,newVar,newRow,nW J q.len q.one]
  ·intro d e;rcases dx.1 e with rfl|e
   ·simp_all
   grind
  have:=M _ i;rw[show(bu.mk (some (b,.ref b [])) [id] [] [(b,⟨.optr j.1,j.2⟩)]).app st=⟨(b,.ref b [])::kill [id] [] st.g,(b,⟨.optr j.1,j.2⟩)::del [id] st.h⟩ from rfl] at this;omega
 grind
def sU (c:List (Nat×aH)) (a:aj) (x:ao):Option (a.den×ad4):=
 match x with
 |.ref id []=>match au c id with
  |some d=>match gS a d.2 with
   |some b=>some (b,[id])
   |none=>none
  |none=>none
 |x=>match coe a x with
  |some b=>some (b,[])
  |none=>none
def sV (b:List (Nat×aH)) (a:aj):List ao->Option (List a.den×adT)
 |[]=>some ([],[])
 |x::e=>match sU b a x,sV b a e with
  |some d,some c=>some (d.1::c.1,d.2::c.2)
  |_,_=>none
theorem Rh {b:dg->Nat->Prop} (m:∀id n,au e id=some n->aT b w n.1 (rt id) n.2 (fp id)) (k:dP E.P n c) (p:bL b w e rt fp d H) {j:n.den} (a:sU e n d=some (j,f)):aT b w n H.cells.toList j (f.map fp).flatten/\∀id∈f,∃r,au e id=some r:=by
 unfold sU at a;split at a
 ·rename_i id;split at a
  case h_2=>cases a
  rename_i s g;split at a
  case h_2=>cases a
  rename_i t q;cases a;obtain⟨u,d⟩:=s;have l:=jk q;cases l;cases p with|ref h o=>
  rw[g] at h;cases h;obtain⟨rfl,rfl,rfl⟩:=aW.e1.1 o;have i:=m id _ g;rw[nW k i.len i.one];grind
 grind [EJ]
theorem Jy {e:List (Nat×aH)} {c:aj}:∀{b:List ao} {xs:List c.den} {is:adT},sV e c b=some (xs,is)->xs.length=b.length/\is.length=b.length/\∀(d:Nat) (h:c.den),xs[d]?=some h->∃(y:ao) (f:ad4),b[d]?=some y/\is[d]?=some f/\sU e c y=some (h,f)
 |[],xs,is,a=>by cases a;grind
 |y::b,xs,is,a=>by
  simp only[sV] at a;split at a
  ·rename_i n g m i;cases a;obtain⟨j,k,l⟩:=Jy (xs:=g.1) (is:=g.2) i;grind
  grind
def q0 {i:Type} (tt:List (TypeId×aj)) (k:List (Nat×aj)) (f:List (Nat×aH)) (e:Operand->ao) (a:Nat) (j:TypeId) (g:Nat) (c:List (Nat×Operand)) (d:bu->Option i):Option i:=
 match fh tt j,au f a with
 |some h,none=>
  match(match au k a with|some (.osl t)=>t|_=>h) with
  |t=>bif ba h t&&Nat.ble t.size 2000&&Nat.ble g 1000&&um c 0&&Nat.beq c.length g then
   match xe t (c.map λb=>e b.2) with
   |some l=>d ⟨some (a,.ref a []),[],[],[(a,⟨.osl t,l⟩)]⟩
   |none=>match sV f t (c.map λb=>e b.2) with
    |some b=>bif h9 b.2.flatten then d ⟨some (a,.ref a []),b.2.flatten,[],[(a,⟨.osl t,b.1⟩)]⟩ else none
    |none=>none
  else none
 |_,_=>none
theorem QP {d5:Type} {d2:d5} {av:bu->Option d5} (ci:o.op=.buildSlice c b r) (bl:o.dst=some l) (bs:C.ok l) (j:q0 E.tt k st.h (aV st.g) l c b r.toList av=some d2) (K:∀N,av N=some d2->Q (N.app st)):dA E C o st Q:=by
 unfold q0 at j;split at j
 case h_2=>cases j
 rename_i q bd bB;generalize u:(match au k l with|some (.osl d)=>d|_=>q)=d at j;simp only at j;cases i:(ba q d&&Nat.ble d.size 2000&&Nat.ble b 1000&&um r.toList 0&&Nat.beq r.toList.length b) with
 |false=>grind
 |true=>
 rw[i] at j;simp only[cond_true] at j;split at j
 ·rename_i y dl;refine dA.eval (an:=k) bl bs ?_;rw[ci];simp only[fl,vc,bd,bB];cases G:au k l with
  |none=>
   rw[G] at u;simp only at u;subst u;simp only[i,cond_true,dl];exact K _ j
  |some m=>
   rw[G] at u;cases m<;>(simp only at u;subst u;simp only[i,cond_true,dl];exact K _ j)
 split at j
 case h_2=>cases j
 rename_i m cv;obtain⟨y,p⟩:=m;cases Z:h9 p.flatten with
 |false=>grind
 |true=>
 rw[Z] at j;rintro a w ⟨I,rt,fp,A⟩ next f7 f0
 have eq:∀id d,au st.h id=some d->aT (bj I C.B) w d.1 (rt id) d.2 (fp id):=λid d u=>(A.tree id d u).1;simp only[bp] at i;obtain⟨⟨⟨⟨d7,V⟩,W⟩,M⟩,a0⟩:=i;have V:=e4 V;have W:=e4 W;have a0:r.toList.length=b:=eF a0;obtain⟨d0,T,_,ed,ek⟩:=fh.ok bd;have J:=ek.lay d7;obtain⟨am,f8,d1,_⟩:=J.info;have go:=J.pos;obtain⟨d8,a3,a4⟩:=Jy cv;simp only[gE] at d8 a3;have f4:y.length=b:=U;have gi:b*d.size<=16777216:=(by have:b*d.size<=1000*2000:=it W V;omega);have X:∀(e:Nat) (m:Nat×Operand),r.toList[e]?=some m->∃(x:d.den) (s:ad4),y[e]?=some x/\p[e]?=some s/\aT (bj I C.B) w d (a.eval m.2).cells.toList x (s.map fp).flatten/\∀id∈s,∃q,au st.h id=some q:=(by intro e m D;have ft:e<y.length:=(by grind);obtain⟨i0,s,al,f9,O⟩:=a4 e y[e] ac;rw[fB,D] at al;simp only[ga,bS] at al;subst al;obtain⟨gv,hc⟩:=Rh eq J (A.aV m.2) O;grind);have Y:∀id∈p.flatten,∃q,au st.h id=some q:=by
  intro id R;obtain⟨L,G,ge⟩:=je.1 R;obtain⟨e,D,rfl⟩:=fC.1 G;have F:r.toList[e]?=some (r.toList[e]'(by omega)):=a9 _
  grind
 obtain⟨ds,fn,fs⟩:∃d4:adW,(b*d.size=0->d4=#[])/\(b*d.size≠0->∃H,(zeroValue T).run E.P w=.ok H w/\d4=H.cells):=by
  by_cases z:b*d.size=0
  ·simp_all
  obtain⟨H,_,f6⟩:=dP.FO J;exact⟨H.cells,λj=>absurd j z,λ_=>⟨H,by simp[zeroValue,typeInfo,d1.info,f6 am d1.info],rfl⟩⟩
 obtain⟨ap,d3,hw,ic,aR⟩:=yr (λam=>some (am*d.size,d.size)) (r.toList.map λm=>(m.1,a.eval m.2)) ((Array.range (b*d.size)).map (ds[· %ds.size]!)) (by
  intro m K;obtain⟨hv,f1,rfl⟩:=de.1 K;obtain⟨e,D,rfl⟩:=fC.1 f1;have F:r.toList[e]?=some r.toList[e]:=ac;obtain⟨x,_,_,_,ad,_⟩:=X e _ F;have N:=qt M e _ F;have:(e+1)*d.size<=b*d.size:=fP _ U;rw[eO,hD] at this;refine⟨_,_,rfl,by have:=ad.len;omega,?_⟩;grind) (by
  rw[gj];intro e L D G ft hr ii hs io al O;simp only[sw,bS,gm] at al O;simp only[gE] at D G;have d9:=qt M e r.toList[e] ac;have f2:=qt M L r.toList[L] ac;obtain⟨rfl,rfl⟩:=al;obtain⟨rfl,rfl⟩:=O;left;rw[d9,f2];have:(0+e+1)*d.size<=(0+L)*d.size:=fP _ U;grind)
 have gs:ap.size=b*d.size:=(by grind);have el:∀n,n<w.heap.size->bT w (w.alloc (.cells ap T)) n:=λn i=>.of_heap ((gQ.alloc w _).heap n i);have em:(p.map λs=>(s.map fp).flatten).flatten=(p.flatten.map fp).flatten:=by
  clear X Y a4 Z j cv a3
  induction p with
  |nil=>rfl
  |cons x L gt=>grind
 have fz:∀n∈(p.flatten.map fp).flatten,n<w.heap.size/\∃id∈p.flatten,∃q,au st.h id=some q/\n∈fp id:=(by intro n i;obtain⟨id,R,i⟩:=Um i;obtain⟨q,ab⟩:=Y id R;exact⟨((A.tree id q ab).2.2 n i).2.2.1,id,R,q,ab,i⟩);refine dA.own (S:=p.flatten) (t:=⟨.osl d,y⟩) (cs:=[.slice (some ⟨w.heap.size,0,none⟩) b b]) (f:=w.heap.size::(p.flatten.map fp).flatten) (v:=.slice (some ⟨w.heap.size,0,none⟩) b b) (w':=w.alloc (.cells ap T)) bl bs A f0 (.inr bB) ?_ (gQ.alloc w _) rfl ?_ (jC.2 ⟨λfT=>Nat.lt_irrefl _ (fz _ fT).1,A.FD (h9.ok Z) Y⟩) ?_ ?_
 ·have f3:=J.sizeOf w;have gl:¬(16777216<b*d.size):=U;have co:(Array.map (λx=>(x.fst,a.eval x.snd)) r).toList=r.toList.map λm=>(m.1,a.eval m.2):=ac;simp only[execOp,ci,Instr.buildSlice,Sem.run_bind,run_underlying ed,Result.andThen_ok,f3];rw[ah U];by_cases z:b*d.size=0
  ·rw[ai z];obtain rfl:=fn z;rw[co];simp only[Sem.run_bind,Sem.run_pure,Result.andThen_ok,d3,newRow,newObj];rfl
  rw[ah z];obtain⟨H,f5,rfl⟩:=fs z;rw[co];simp only[Sem.run_bind,Sem.run_pure,Result.andThen_ok,f5,d3,newRow,newObj];rfl
 ·refine⟨some ⟨w.heap.size,0,none⟩,b,by rw[f4],.inr ⟨w.heap.size,0,p.map λs=>(s.map fp).flatten,rfl,by rw[em],by grind,(by grind),h1.alloc U,λe x gc ad ce=>?_⟩⟩;have D:e<b:=(by grind);have F:r.toList[e]?=some (r.toList[e]'(by omega)):=by simp
  obtain⟨is,s,c2,ex,c1,ab⟩:=X e _ F;rw[ad] at c2;obtain rfl:=ee c2;rw[fB,ex] at ce;obtain rfl:=ee ce;refine⟨_,c1.len,dU.alloc (λd0 d6 gf=>?_),c1.mono (λhi n i=>⟨i,el n (A.ib n (mq i))⟩) (λn i=>?_)⟩
  ·have:=aR (r.toList[e].1,a.eval r.toList[e].2) (de.2 ⟨r.toList[e],bA _,rfl⟩) _ _ rfl d0 d6 (by grind);have N:=qt M e _ F;grind
  grind
 ·intro n i;rcases dx.1 i with rfl|i
  ·exact .inl ⟨a2 _,ac⟩
  grind
 have:=K _ j;rw[show(bu.mk (some (l,.ref l [])) p.flatten [] [(l,⟨.osl d,y⟩)]).app st=⟨(l,.ref l [])::kill p.flatten [] st.g,(l,⟨.osl d,y⟩)::del p.flatten st.h⟩ by
  show aQ.mk ((l,_)::mm _ [] st.g) ([_]++p1 _ st.h)=_;rw[rD,vI];rfl] at this
 omega
end
end
section
def hI:aj->aj
 |.osl a=>.bb .bK (hI a)
 |.st a=>.st (hI a)
 |.pr b c=>.pr (hI b) (hI c)
 |.mp a=>.dN .bK a
 |τ=>τ
def rv:aj->Bool
 |.osl a|.st a=>rv a
 |.pr b c=>rv b&&rv c
 |.optr _|.di=>false
 |_=>true
def ry:∀d:aj,(hI d).den=d.den
 |.osl c=>congrArg List (ry c)
 |.st c=>ry c
 |.pr a b=>by show((hI a).den×(hI b).den)=(a.den×b.den);rw[ry a,ry b]
 |.int _|.bool|.str|.bb _ _|.ptr _ _|.optr _|.nil|.di|.mp _|.dN _ _=>rfl
def kh (a:aj) (b:a.den):(hI a).den:=cast (ry a).symm b
def QY {c:Type} (d:a=c) (e:List a=List c) (b:List a):cast e b=b.map (cast d):=by subst d;show b=b.map (λf=>f);simp
def QZ {c C d:Type} (e:a=c) (f:C=d) (g:(a×C)=(c×d)) (b:a×C):cast g b=(cast e b.1,cast f b.2):=by subst e;subst f;rfl
def FH (a:aj) (b:List a.den):(kh (.osl a) b:List (hI a).den)=b.map (kh a):=QY (ry a).symm _ b
def S0 (a b:aj) (c:a.den×b.den):(kh (.pr a b) c:(hI a).den×(hI b).den)=(kh a c.1,kh b c.2):=QZ (ry a).symm (ry b).symm _ c
def tA:∀b:aj,(hI b).size=b.size
 |.osl a=>rfl
 |.st a=>tA a
 |.pr c d=>by simp only[hI,aj.size,tA c,tA d]
 |.int _|.bool|.str|.bb _ _|.ptr _ _|.optr _|.nil|.di|.mp _|.dN _ _=>rfl
def wm {B u:dg->Nat->Prop} {w:World} (i:∀c a,B c a->u c a):∀{τ:aj} {g:adY} {d:τ.den} {h:ad4},rv τ=true->aT B w τ g d h->(∀a∈h,u .bK a)->aT u w (hI τ) g (kh τ d) []
 |.osl f,g,t,h,j,b,k=>by
  obtain⟨l,K,G,b⟩:=b;have s:(kh (.osl f) t:List (hI f).den).length=List.length (α:=f.den) t:=(by rw[FH];simp);rcases b with⟨rfl,E,rfl,rfl⟩|⟨a,R,D,rfl,rfl,r,o,F,A⟩
  ·refine⟨rfl,none,0,by rw[G,s],by rw[s,E];simp,λ_=>rfl,.inl ?_⟩;rw[FH,E];rfl
  refine⟨rfl,_,K,by rw[G,s],by rw[s];exact o,(λb=>by cases b),?_⟩;refine .inr ⟨a,R,rfl,k a ac,λm d q=>?_⟩;rw[FH] at q;have q:(List.map (kh f) t)[m]?=some d:=q;rw[fB] at q;obtain⟨S,H,rfl⟩:=er.1 q;have U:m<List.length (α:=f.den) t:=(eT.1 H).1;have O:D[m]?=some (D[m]'(by omega)):=a9 _
  obtain⟨z,v,x,y⟩:=A m S _ H O;rw[tA];exact⟨z,v,x,wm i j y (λn p=>k n (fk _ (je.2 ⟨_,bA _,p⟩)))⟩
 |.st f,g,d,h,j,b,k=>wm (τ:=f) i j b k
 |.pr l a,g,d,h,j,b,k=>by
  simp only[rv,bp] at j;obtain⟨T,f2,rfl,r,o⟩:=b;have C:=S0 l a d;refine⟨[],[],rfl,?_,?_⟩
  ·rw[tA];have:=wm i j.1 r (λn p=>k n (by simp[p]));rw[show(kh (.pr l a) d:(hI l).den×(hI a).den).1=kh l d.1 by rw[C]];exact this
  rw[tA];have:=wm i j.2 o (λn p=>k n (by simp[p]));rw[show(kh (.pr l a) d:(hI l).den×(hI a).den).2=kh a d.2 by rw[C]];exact this
 |.int Q,g,d,h,_,b,_=>by obtain rfl:=aT.pure (τ:=.int Q) rfl b;exact b.mono (λc a e=>⟨i c a e,bT.refl _ _⟩) ac
 |.bool,g,d,h,_,b,_=>by obtain rfl:=aT.pure (τ:=.bool) rfl b;exact b.mono (λc a e=>⟨i c a e,bT.refl _ _⟩) ac
 |.str,g,d,h,_,b,_=>by obtain rfl:=aT.pure (τ:=.str) rfl b;exact b.mono (λc a e=>⟨i c a e,bT.refl _ _⟩) ac
 |.bb c f,g,d,h,_,b,_=>by obtain rfl:=aT.pure (τ:=.bb c f) rfl b;exact b.mono (λc a e=>⟨i c a e,bT.refl _ _⟩) ac
 |.ptr c f,g,d,h,_,b,_=>by obtain rfl:=aT.pure (τ:=.ptr c f) rfl b;exact b.mono (λc a e=>⟨i c a e,bT.refl _ _⟩) ac
 |.nil,g,d,h,_,b,_=>by obtain rfl:=aT.pure (τ:=.nil) rfl b;exact b.mono (λc a e=>⟨i c a e,bT.refl _ _⟩) ac
 |.optr _,_,_,_,j,_,_=>by cases j
 |.dN c f,g,d,h,_,b,_=>by obtain rfl:=aT.pure (τ:=.dN c f) rfl b;exact b.mono (λc a e=>⟨i c a e,bT.refl _ _⟩) ac
 |.mp f,g,d,h,_,b,k=>by
  cases d with
  |none=>exact⟨rfl,b.2⟩
  |some I=>
   obtain⟨a,L,J,r,o,N,F,A,M⟩:=b;refine⟨a,L,J,r,rfl,N,k a (by rw[o];simp),F,A,λm I P=>?_⟩;obtain⟨z,v,x,y⟩:=M m I P;exact⟨z,v,x,y.mono (λc a e=>⟨i c a e,bT.refl _ _⟩) ac⟩
 |.di,_,_,_,j,_,_=>by cases j
def p9:aH->ao
 |⟨.optr u,x⟩=>.val (.ptr .bK (hI u)) (some (kh u x))
 |⟨a,x⟩=>.val (hI a) (kh a x)
def FI:aj->Bool
 |.optr a=>rv a
 |τ=>rv τ
def fy (c:List (Nat×aH)) (b:ad4) (a:ao):ao:=
 match a with
 |.ref id []=>bif du id b then match au c id with
  |some d=>p9 d
  |none=>.dead else .ref id []
 |a=>bif a.ej b then .dead else a
def lI (c:List (Nat×aH)) (b:ad4) (a:ao):(∃id d,a=.ref id []/\id∈b/\au c id=some d/\fy c b a=p9 d)\/(fy c b a=.dead/\a.ej b=true)\/(fy c b a=a/\a.ej b=false):=by
 have i:∀a:ao,fy c b a=(bif a.ej b then .dead else a)->(∃id d,a=.ref id []/\id∈b/\au c id=some d/\fy c b a=p9 d)\/(fy c b a=.dead/\a.ej b=true)\/(fy c b a=a/\a.ej b=false):=by
  intro a f;cases g:a.ej b with
  |true=>rw[g] at f;exact .inr (.inl ⟨f,rfl⟩)
  |false=>rw[g] at f;exact .inr (.inr ⟨f,rfl⟩)
 cases a with
 |ref id j=>
  cases j with
  |nil=>
   cases e:du id b with
   |true=>
    have g:(ao.ref id []).ej b=true:=(by simp[ao.ej,ao.ids,e]);cases h:au c id with
    |none=>exact .inr (.inl ⟨by simp[fy,e,h],g⟩)
    |some d=>exact .inl ⟨id,d,rfl,fG.1 e,h,by simp[fy,e,h]⟩
   |false=>exact .inr (.inr ⟨by simp[fy,e],by simp[ao.ej,ao.ids,e]⟩)
  |cons k j=>exact i _ rfl
 |_=>exact i _ rfl
def hn (c:List (Nat×aH)) (b:ad4):ao->ao
 |.dM d=>.dM (d.map (fy c b))
 |a=>fy c b a
theorem FG (b:∀a,d≠.dM a):hn e f d=fy e f d:=by
 cases d with
 |dM a=>exact absurd rfl (b a)
 |_=>rfl
def rx (a:ad4) (st:aQ):aQ:=⟨st.g.map λb=>(b.1,hn st.h a b.2),del a st.h⟩
def KD (c:ao->ao) (e:c .dead=.dead):∀(d:List (Nat×ao)) (b:Nat),gt (d.map λf=>(f.1,c f.2)) b=c (gt d b)
 |[],b=>e.symm
 |(g,a)::d,b=>by
  show gt ((g,c a)::_) b=_;rw[hJ,hJ];split
  ·rfl
  exact KD c e d b
theorem Cn (a:ad4) (st:aQ) (b:Nat):gt (rx a st).g b=hn st.h a (gt st.g b):=KD (hn st.h a) rfl st.g b
def S1 (a:ad4) (st:aQ):aV (rx a st).g=λb=>hn st.h a (aV st.g b):=by
 funext b;cases b with
 |tmp c=>exact Cn a st c
 |const d=>cases d<;>rfl
 |func e=>rfl
 |global f=>rfl
theorem DP (a:d.ej f=false) (b:List (Nat×List a5)):dO f b d=d:=by unfold dO;rw[a];rfl
def aaf (a:(ao.dM L).ej f=false) (c:d∈L):d.ej f=false:=by unfold ao.ej at a|-;rw[uK] at a|-;intro id g;obtain⟨b,e,rfl⟩:=fC.1 c;exact a id (ao.yP (l:=L) (i:=b) (a9 e) g)
theorem aae (b:d.ej f=false) (a:List (Nat×List a5)):eu f a d=d:=by
 cases d with
 |dM e=>
  simp only[eu];rw[h3 (λd c=>DP (aaf b c) a),List.map_id']
 |_=>exact DP b a
theorem S3 (a:ad4) (b:List (Nat×List a5)) (c:aH):eu a b (p9 c)=dO a b (p9 c):=by unfold p9;split<;>rfl
def wE (a e:ao):Prop:=a=.dead\/a=e\/∃b c,a=.dM b/\e=.dM c/\b.length=c.length/\∀(f:Nat) (d g:ao),b[f]?=some d->c[f]?=some g->d=.dead\/d=g
section
variable {C:dD} {st:aQ} {G:adW} {w:World}
def bC.freeze {i:Nat->Prop} (u:bC C st G w i z A) (W:∀id∈f,∃b,au st.h id=some b/\FI b.1=true):ff C (rx f st) G w:=by
 have N:=u.bU (S:=f) (keep:=[]) (new:=[]) (rtn:=z) (fpn:=A) (w':=w) (I':=λa=>i a\/∃id∈f,∃b,au st.h id=some b/\a∈A id) ⟨a2 _,rfl,rfl,rfl,λ_ _ _=>rfl,λ_ _=>.refl _ _,λ_ c=>.inl c,λa c=>c.imp id λ⟨id,ab,b,s,o⟩=>
  ⟨((u.tree id b s).2.2 a o).2.2.1,.inr ⟨id,ab,b,s,o⟩⟩,(λ_ _ c=>by cases c),(λ_ _ _ _ c=>by cases c),(λ_ c=>by cases c),(λ_ c=>by cases c)⟩
 refine⟨_,_,_,{N with tmp:=λq=>?_}⟩;rw[Cn];have p:=u.tmp q;have k:=N.tmp q;rw[show gt (aQ.mk (kill f [] st.g) ([]++del f st.h)).g q=eu f [] (gt st.g q) from qc _ _ _ _] at k;generalize gt st.g q=l at p k;generalize G.getD q undef=e at p k;have H:∀(l:ao) (e:Value),bL (bj i C.B) w st.h z A l e->bL (bj (λa=>i a\/∃id∈f,∃b,au st.h id=some b/\a∈A id) C.B) w ([]++del f st.h) (dI [] z z) (dI [] A A) (dO f [] l) e->
  bL (bj (λa=>i a\/∃id∈f,∃b,au st.h id=some b/\a∈A id) C.B) w ([]++del f st.h) (dI [] z z) (dI [] A A) (fy st.h f l) e:=by
  intro l e p k;rcases lI st.h f l with⟨id,b,j,m,n,V⟩|⟨j,_⟩|⟨j,m⟩
  ·rw[V];rw[j] at p;cases p with|ref s am=>
   rw[n] at s;cases s;obtain⟨rfl,rfl,rfl⟩:=aW.e1.1 am;obtain⟨bs,M,K⟩:=W id m;rw[n] at M;cases M;have J:∀v a,bj i C.B v a->bj (λa=>i a\/∃id∈f,∃b,au st.h id=some b/\a∈A id) C.B v a:=by
    intro v a o;cases v
    ·exact .inl o
    exact o.imp .inl (λc=>c)
   have L:=(u.tree id b n).1;have y:∀a∈A id,bj (λa=>i a\/∃id∈f,∃b,au st.h id=some b/\a∈A id) C.B .bK a:=λa o=>.inr ⟨id,m,b,n,o⟩;obtain⟨d,t⟩:=b;by_cases D:∃r,d=.optr r
   ·obtain⟨r,rfl⟩:=D;obtain⟨a,E,a4,Q,al,I,R,T,a3,U⟩:=L;show bL _ _ _ _ _ (.val (.ptr .bK (hI r)) (some (kh r t))) _;have al:z id=[.pointer (some ⟨a,E,none⟩)]:=al;rw[al];refine .val (τ:=.ptr .bK (hI r)) (x:=some (kh r t)) (cs:=[.pointer (some ⟨a,E,none⟩)]) ⟨rfl,a,E,Q,rfl,y a (by rw[I];exact jB ..),by rw[tA];exact R,T,wm J K U (λP X=>y P (by rw[I];exact fk _ X))⟩
   have ap:bO d (z id)=bO (hI d) (z id):=(by cases d<;>rfl);have av:p9 ⟨d,t⟩=.val (hI d) (kh d t):=by cases d<;>first|rfl|exact absurd ⟨_,rfl⟩ D
   have an:rv d=true:=by cases d<;>first|exact K|exact absurd ⟨_,rfl⟩ D
   rw[av];show bL _ _ _ _ _ _ (bO d (z id));rw[ap];exact .val (wm J an L y)
  ·rw[j];exact .dead _
  rw[j];rw[DP m] at k;exact k
 cases l with
 |dM bl=>
  cases p with|dM ad Y=>
  cases k with|dM bd Z=>
  refine .dM (by simp[ad]) (λO a0 e j m=>?_);rw[fB] at j;obtain⟨F,n,rfl⟩:=er.1 j;exact H F e (Y O F e n m) (Z O _ e (by rw[fB,n];rfl) m)
 |_=>exact H _ _ p k
def ff.Le (y:ff C st G w) (E:∀b,wE (gt i.g b) (gt st.g b)) (k:∀id,au i.h id=au st.h id):ff C i G w:=by
 obtain⟨o,q,p,e⟩:=y;refine⟨o,q,p,{e with tree:=λid j m=>e.tree id j (by rw[<-k];exact m),dis:=λf K j M H I=>e.dis f K j M (by rw[<-k];exact H) (by rw[<-k];exact I),tmp:=λb=>?_}⟩;have t:∀(d:ao) (c:Value),bL (bj o C.B) w st.h q p d c->bL (bj o C.B) w i.h q p d c:=λd c A=>
  A.rO (λP N D=>⟨D,bT.refl _ _⟩) (λid _ j m=>⟨by rw[k];exact m,rfl,rfl,(e.tree id j m).1,λ_ _=>bT.refl _ _⟩)
 have l:=e.tmp b;rcases E b with a|a|⟨O,L,al,u,v,x⟩
 ·rw[a];exact .dead _
 ·rw[a];exact t _ _ l
 rw[al];rw[u] at l;generalize G.getD b undef=c at l;cases l with|dM J F=>
 refine .dM (v.trans J) (λf d c r z=>?_);obtain⟨n,s⟩:∃n,L[f]?=some n:=(by have:=(eT.1 r).1;exact⟨_,a9 U⟩);rcases x f d n r s with a|a
 ·rw[a];exact .dead _
 rw[a];exact t _ _ (F f n c s z)
def ff.less (b:ff C st G w) (c:∀a,gt i.g a=.dead\/gt i.g a=gt st.g a) (d:∀id,au i.h id=au st.h id):ff C i G w:=
 b.Le (λa=>(c a).imp id .inl) d
end
def qA:Op->List Operand
 |.build _ c=>c.toList.map (·.2)
 |.buildSlice _ _ c=>c.toList.map (·.2)
 |.store _ _ a=>[a]
 |.mapUpdate _ _ _ a=>[a]
 |.insert _ _ _ a=>[a]
 |.entryStore _ _ _ a=>[a]
 |.box _ a=>[a]
 |.assign a=>[a]
 |.call b=>match b.callee with
  |.value _=>b.args.toList
  |.builtin .append=>b.args.toList.drop 1
  |_=>[]
 |_=>[]
def tz (b:Oper):Nat:=match b.dst with
 |some a=>a
 |none=>999999
def k6 (a:ad6) (c:Nat) (b:Operand->ao):List Operand->ad4
 |[]=>[]
 |x::d=>match b x with
  |.ref id []=>bif a.any (λe=>Nat.beq e.1 c&&Nat.beq e.2 id) then id::k6 a c b d else k6 a c b d
  |_=>k6 a c b d
end
section
def EP {c d:List a} (e:l<=b) (f:b<=c.length):(h6 c d l b).length=c.length:=by unfold h6;simp only[oi,dZ,j5];omega
def JE {d e:List a} (i:b<=l) (j:l<=d.length) (c:Nat):(h6 d e b l)[c]?=if b<=c/\c<b+min e.length (l-b) then e[c-b]? else d[c]?:=by
 unfold h6;rw[zT];simp only[dZ];rcases bg c b with f|f
 ·rw[ai U,ah U,l0 f]
 rw[ah U,zT];simp only[dZ];have g:c-min b d.length=c-b:=U;rw[g];by_cases h:c<b+min e.length (l-b)
 ·rw[ai U,ai ⟨f,h⟩,l0 U]
 rw[ah U,ah U,jA];congr 1;omega
def pP {k:Type} (tt:List (TypeId×aj)) (d:List (Nat×aH)) (f:Nat) (l:TypeId) (m j:ao) (e:bu->Option k):Option k:=
 match fh tt l with
 |none=>none
 |some i=>match m with
  |.ref id []=>match au d id with
   |some ⟨.osl a,b⟩=>bif ba i a&&Nat.beq a.size 1&&a.pure then
    (j0 d a j).bind λc=>e ⟨some (f,.val (.int .i64) ((min c.length (b.length-0):Nat):Int)),[id],[(id,[])],[(id,⟨.osl a,h6 b c 0 b.length⟩)]⟩
    else none
   |_=>none
  |.view id [] h g=>match au d id with
   |some ⟨.osl a,b⟩=>bif ba i a&&Nat.beq a.size 1&&a.pure then
    (j0 d a j).bind λc=>e ⟨some (f,.val (.int .i64) ((min c.length (g-h):Nat):Int)),[id],[(id,[])],[(id,⟨.osl a,h6 b c h g⟩)]⟩
    else none
   |_=>none
  |_=>none
def bu.Qq {a:List (Nat×List a5)} {st:aQ}:(bu.mk (some (b,d)) f a e).app st=⟨(b,d)::kill f a st.g,e++del f st.h⟩:=by show aQ.mk ((b,d)::mm f a st.g) (e++p1 f st.h)=_;rw[rD,vI]
section
variable {E:eh} {C:dD} {st:aQ} {a:Act} {w:World} {I:Nat->Prop} {rt:Nat->adY} {fp:Nat->ad4} {o:Oper}
def H1 (e:bC C st a.tmps w I rt fp) {b:List n.den} (c:j0 st.h n (aV st.g m)=some b):w5 I C.B w n (a.eval m) b:=by
 refine uA e ?_;have:=zJ c;generalize qC st.h n (aV st.g m)=i at this;cases i with
 |dw k=>exact this.symm
 |part l o j=>obtain⟨f,d,rfl⟩:=this;exact⟨f,d,rfl⟩
 |bad=>exact this.elim
def EO (co:bC C st a.tmps w I rt fp) {f2:Type} {fz:f2} {d2:bu->Option f2} {d1:Operand} (hv:o.op=.call {callee:=.builtin .copy,args:=#[m,d1],argTypes:=#[c,q]}) (Z:o.dst=some W) (gf:C.ok W) {next:Act->World->Prop} {d4:Exit->Act->World->Prop} (hs:∀fT a3 w',(∃p,d2 p=some fz/\fT=p.app st)->a3.defers=a.defers->ff C fT a3.tmps w'->next a3 w') (f9:fh E.tt c=some y) (hr:ba y n=true) (t:n.size=1) (ad:n.pure=true) {id:Nat} {k g:List n.den} (O:au st.h id=some ⟨.osl n,k⟩) (J:b<=l) (K:l<=k.length) (ic:w5 I C.B w n (a.eval d1) g) {a4:Option Addr} {d5:Nat} (eq:a.eval m=.slice a4 (l-b) d5) (ib:l-b=0\/∃d j V,rt id=[.slice (some ⟨d,j,none⟩) k.length V]/\a4=some ⟨d,j+b,none⟩) (f6:d2 ⟨some (W,.val (.int .i64) ((min g.length (l-b):Nat):Int)),[id],[(id,[])],[(id,⟨.osl n,h6 k g b l⟩)]⟩=some fz):o.wp E.P a w next d4:=by
 obtain⟨f,d3,ax,d9,f4⟩:=fh.ok f9;have f5:=f4.lay hr;obtain⟨ne,_,ap,_⟩:=f5.info;obtain⟨d0,lb,f0⟩:=co.tree id _ O;obtain⟨f1,le,X,fn,c1,gs⟩:=ic;have d7:∀w':World,w'.heap.size=w.heap.size->w'.os=w.os->w'.tape=w.tape->w'.output=w.output->(∀d,d∉fp id->w'.heap[d]?=w.heap[d]?)->(∀d,hL w' d=hL w d)->aT (bj I C.B) w' (.osl n) (rt id) (h6 k g b l) (fp id)->
  (Builtin.copy_ #[c,q] o.type #[a.eval m,a.eval d1]).run E.P w=.ok (goInt ((min g.length (l-b):Nat):Int)) w'->o.wp E.P a w next d4:=by
  intro w' i3 i8 jp kd kg la k0 N;have N:(execOp a.eval o).run E.P w=.ok (.value (goInt ((min g.length (l-b):Nat):Int))) w':=(by simp only[execOp,hv,resolve,invoke,builtin,Sem.run_bind,Sem.run_pure,Result.andThen_ok,wW,fr,qO,N]);have hw:=co.bU (S:=[id]) (keep:=[(id,[])]) (new:=[(id,⟨.osl n,h6 k g b l⟩)]) (rtn:=rt) (fpn:=fp) (w':=w') (I':=I)
   ⟨Nat.le_of_eq i3.symm,i8,jp,kd,λd Y f8=>kg d (f8 id ac _ O),λd _=>.of_eq (la d),λ_ H=>H,λ_ H=>.inl H,(by
    intro f ds s;rw[b1] at s;split at s
    ·rename_i p;subst p;cases s;exact⟨.inl ac,k0,lb,λd Y=>⟨(f0 d Y).1,by have:=(f0 d Y).2.2.1;omega,.inr ⟨_,ac,_,O,Y⟩⟩⟩
    ·cases s),(by
    intro f e nx n5 s dl gv;rw[b1] at s dl;split at s
    ·split at dl
     ·rename_i al bl;exact absurd (al.symm.trans bl) gv
     cases dl
    ·cases s),(by
    intro p A ds am;simp only[eI] at A;subst A;have am:au st.h id=some ds:=am;rw[O] at am;obtain rfl:=ee am;exact⟨⟨.osl n,h6 k g b l⟩,by rw[b1,ai rfl],rfl,rfl,⟨_,rfl⟩,λi2 _ _ _ u=>by rw[Cx] at u;cases u⟩),(by
    intro p A ds _ i2 _ _ _ _ _ Z;simp only[eI] at A;subst A;rw[tk] at Z;cases Z)⟩
  unfold Oper.wp;rw[N];show next (a.put o.dst _) w'
  rw[Z];have ad:=hw.put gf (av:=.val (.int .i64) ((min g.length (l-b):Nat):Int)) (v:=goInt ((min g.length (l-b):Nat):Int)) (.val (τ:=.int .i64) (cs:=[.int .i64 _]) ⟨rfl,rfl⟩);have hrel:ff C ((bu.mk (some (W,.val (.int .i64) ((min g.length (l-b):Nat):Int))) [id] [(id,[])] [(id,⟨.osl n,h6 k g b l⟩)]).app st) (a.put (some W) (goInt ((min g.length (l-b):Nat):Int))).tmps w':=(by rw[bu.Qq];exact⟨I,_,_,ad⟩);exact hs _ _ _ ⟨_,f6,rfl⟩ rfl hrel
 have hi:Nat.min g.length (l-b)=min g.length (l-b):=rfl;by_cases u:min g.length (l-b)=0
 ·have gc:h6 k g b l=k:=by
   apply g4;intro f;rw[JE J K,ah U]
  refine d7 w rfl rfl rfl rfl (λ_ _=>rfl) (λ_=>rfl) (by rw[gc];exact d0) ?_;rw[eq,fn,u];exact run_copy_none w c q o.type d3 a4 f1 _ _ _ _ d9 (by rw[ap.info];simp[ap.size,t]) (by rw[hi];exact u)
 rcases ib with mo|⟨d,j,V,em,rfl⟩
 ·omega
 rw[em] at d0;obtain⟨lp,mc,al,bl⟩:=d0;simp only[gu,Value.slice.injEq,and_true] at al;obtain⟨rfl,_,rfl⟩:=al;rcases bl with⟨bd,_⟩|⟨lt,no,G,bd,c2,bB,ce,ci,d8⟩
 ·cases bd
 cases bd;have ce:k.length<=V:=ce;have bB:G.length=k.length:=bB;have go:G.flatten=[]:=Fx (λbs L=>by
  obtain⟨f,s,rfl⟩:=fC.1 L;have mz:f<k.length:=(by rw[<-bB];exact s);obtain⟨D,_,_,F⟩:=d8 f k[f] G[f] ac ac;exact F.pure ad)
 rw[go] at c2;obtain⟨an,ft,is,i0,i1⟩:=c1.cells U;rw[t,Nat.mul_one] at ft;have ex:g≠[]:=λp=>(by rw[p] at u;simp at u);obtain⟨a0,rfl⟩:∃a0,f1=some a0:=by
  rcases c1.2 with H|⟨l2,nn,rfl,_⟩
  ·exact absurd H ex
  exact⟨_,rfl⟩
 let i:=an.take (min g.length (l-b))
 have ek:i.length=min g.length (l-b):=(by simp[i,ft]);have ge:∀e v,i[e]?=some v->an[e]?=some v:=λe v r=>by
  rw[uM] at r;split at r
  ·exact r
  cases r
 have cv:∀e,e<i.length->(w.cell? ⟨d,j+b+e,none⟩).isSome=true:=λe r=>(ci (j+b+e) U (by rw[t];omega)).1;have N:=run_copy_cells (P:=E.P) w c q o.type d3 d (j+b) (l-b) d5 a0 g.length le i d9 (by rw[ap.info];simp[ap.size,t]) (by rw[ek]) (λe v r=>i0 a0 rfl ex e v (ge e v r)) cv (λe r=>(ci (j+b+e) U (by rw[t];omega)).2) (λv x=>is v (List.mem_of_mem_take x));have ed:d∈fp id:=(by rw[c2];simp);have f7:∀R z,bj I C.B R z->z≠d:=λR z ab p=>co.notM O d ed R (p▸ab);refine d7 (w.setCells d (j+b) i) (ww d i _ w) (pc d i _ w).1 (pc d i _ w).2.1 (pc d i _ w).2.2 (λz u=>zp d i _ w z (λp=>u (p▸ed))) (λz=>yM _ _ _ _ _) ?_ ?_
 ·rw[em,c2];refine⟨some ⟨d,j,none⟩,V,by rw[EP J K],.inr ⟨d,j,List.replicate k.length [],rfl,by rw[Fx (λbs L=>List.eq_of_mem_replicate L)],by rw[EP J K];simp,by rw[EP J K];exact ce,?_,?_⟩⟩
  ·intro e ii io;obtain⟨lk,lo⟩:=ci e ii io;exact⟨by rw[<-lk,(U:e=(j+b)+e-(j+b))];exact(Hs d i (j+b) w cv _).trans (by congr 1),by rw[World.frozen?_setCells];exact lo⟩
  intro f T bs Q L;have gl:bs=[]:=(by have:=lx L;exact List.eq_of_mem_replicate this);subst gl;rw[JE J K] at Q;have fs:∀{D:adY} {T:n.den},aT (bj I C.B) w n D T []->aT (bj I C.B) (w.setCells d (j+b) i) n D T []:=λM=>M.mono (λR z ab=>⟨ab,qu (f7 R z ab)⟩) ac;split at Q
  ·rename_i mt;have r:f-b<i.length:=U;have gt:X[f-b]?=some []:=by
    have el:f-b<X.length:=(by rw[c1.1];omega);rw[a9 el];have:X[f-b]∈X:=bA el;congr 1;exact(List.flatten_eq_nil_iff.1 gs) _ this
   have M:=i1 (f-b) T [] Q gt;rw[t,Nat.mul_one] at M;have gi:(an.drop (f-b)).take 1=[i[f-b]]:=(by have hc:f-b<an.length:=U;rw[D3 hc];simp only[List.take_succ_cons,List.take_zero,gu,and_true];simp[i]);rw[gi] at M;refine⟨[i[f-b]],by simp[t],?_,fs M⟩;intro e v x;cases e with
   |zero=>
    simp only[j4,bS] at x;subst x;have:=World.cell?_setCells_in d i (j+b) w cv (f-b) r;rw[<-this,t];congr 2;omega
   |succ e=>simp at x
  rename_i nd;have mp:f<k.length:=(eT.1 Q).1;obtain⟨D,d6,f3,F⟩:=d8 f T (G[f]'(by omega)) Q ac
  have A:G[f]'(by omega)=[]:=F.pure ad
  rw[A] at F;refine⟨D,d6,?_,fs F⟩;intro e v x;have:=f3 e v x;have r:e<D.length:=(eT.1 x).1;rw[World.cell?_setCells_out d i (j+b) w _ (λ_ _=>?_)]
  ·exact this
  rw[d6,t] at r;simp only[t];omega
 rw[eq,fn];have:goInt ((min g.length (l-b):Nat):Int)=goInt i.length:=(by rw[ek]);rw[this];exact N
theorem dA.copy {S:Type} {O:S} {H:bu->Option S} {R:Operand} (B:o.op=.call {callee:=.builtin .copy,args:=#[m,R],argTypes:=#[c,q]}) (x:o.dst=some b) (y:C.ok b) (d:pP E.tt st.h b c (aV st.g m) (aV st.g R) H=some O):dA E C o st (λY=>∃L,H L=some O/\Y=L.app st):=by
 rintro a w ⟨I,rt,fp,f⟩ next am A
 have k:=f.aV m;unfold pP at d;split at d
 ·cases d
 rename_i P D;split at d
 ·rename_i id v;split at d
  case h_2=>cases d
  rename_i j Q i;cases e:(ba P j&&Nat.beq j.size 1&&j.pure) with
  |false=>rw[e] at d;cases d
  |true=>
  rw[e] at d;simp only[bp] at e;obtain⟨ab,p,d⟩:=dp.1 d;rw[v] at k;generalize n:a.eval m=Z at k;cases k with|ref l z=>
  rw[i] at l;cases l;obtain⟨rfl,rfl,rfl⟩:=aW.e1.1 z;have G:=(f.tree id _ i).1;obtain⟨J,s,al,M⟩:=G;have U:a.eval m=.slice J (Q.length-0) s:=(by rw[n,al];rfl);refine EO f B x y A D e.1.1 (eF e.1.2) e.2 i (bE _) (a2 _) (H1 f p) U ?_ d;rcases M with⟨_,rfl,_⟩|⟨r,F,an,rfl,_⟩
  ·exact .inl rfl
  exact .inr ⟨r,F,s,al,rfl⟩
 ·rename_i id X ap v;split at d
  case h_2=>cases d
  rename_i j Q i;cases e:(ba P j&&Nat.beq j.size 1&&j.pure) with
  |false=>rw[e] at d;cases d
  |true=>
  rw[e] at d;simp only[bp] at e;obtain⟨ab,p,d⟩:=dp.1 d;rw[v] at k;generalize n:a.eval m=Z at k;cases k with|kR=>(exact EO f B x y A D e.1.1 (eF e.1.2) e.2 i (a2 _) (bE _) (H1 f p) n (.inl rfl) d)|view l z V W av=>
  rw[i] at l;cases l;rename_i ad a3 r F a0 s;obtain⟨t,_,u⟩:=aW.e1.1 z;have t:aj.osl j=aj.osl ad:=t;cases t;have N:=eF e.1.2;have G:=(f.tree id _ i).1;obtain⟨J,K,al,M⟩:=G;rw[al] at u;simp only[gu,Value.slice.injEq,and_true] at u;obtain⟨rfl,rfl,rfl⟩:=u;refine EO f B x y A D e.1.1 N e.2 i V W (H1 f p) n ?_ d;by_cases T:K=X
  ·left;omega
  exact .inr ⟨r,F,K,al,by rw[ah T,N,Nat.mul_one]⟩
 cases d
end
end
section
def aW.cells {w q:World} (e:∀a,q.cell? a=w.cell? a):∀{p:List a5} {τ r:aj} {m n:Loc} {f g:adY},aW w τ m f p r n g->aW q τ m f p r n g
 |[],τ,_,_,_,_,_,c=>by cases τ<;>exact c
 |s::p,τ,r,m,n,f,g,c=>by
  have u:∀{b o:Nat} {d:adY},dU w b o d->dU q b o d:=λy A C z=>(by rw[e];exact y A C z);cases τ<;>cases s<;>simp only[aW] at c
  case osl.idx t i=>
   obtain⟨b,o,B,v,d,h,j,k,l,x⟩:=c;exact⟨b,o,B,v,d,h,j,k,u l,x.cells e⟩
  case optr.deref t=>
   obtain⟨b,o,d,h,j,k,l⟩:=c;exact⟨b,o,d,h,j,u k,l.cells e⟩
  case st.unst t=>exact aW.cells e (τ:=t) c
  case pr.fst a b=>exact aW.cells e (τ:=a) c
  case pr.snd a b=>exact aW.cells e (τ:=b) c
def ZZ (a:aj):dR a []=some a:=by cases a<;>rfl
def aW.wA {w:World} {r:List a5}:∀{p:List a5} {τ c:aj} {m n:Loc} {e f:adY},aW w τ m e p c n f->dR τ (p++r)=dR c r
 |[],τ,_,_,_,_,_,a=>by obtain⟨rfl,_⟩:=aW.e1.1 a;rfl
 |s::p,τ,_,_,_,_,_,a=>by
  cases τ<;>cases s<;>simp only[aW] at a
  case osl.idx t i=>obtain⟨d,o,u,q,g,h,j,k,b,l⟩:=a;exact l.wA
  case optr.deref t=>obtain⟨d,o,g,h,j,k,b⟩:=a;exact b.wA
  case st.unst t=>exact aW.wA (p:=p) (τ:=t) a
  case pr.fst t1 t2=>exact aW.wA (p:=p) (τ:=t1) a
  case pr.snd t1 t2=>exact aW.wA (p:=p) (τ:=t2) a
section
variable {E:eh} {C:dD} {st:aQ} {a:Act} {A:adW} {w:World} {I:Nat->Prop} {rt:Nat->adY} {fp:Nat->ad4} {o:Oper} {Q:aQ->Prop}
def JJ:∀{p q:List a5},jJ (p++[.deref]) q=true->jJ p q=true
 |[],q,a=>by
  cases q with
  |nil=>cases a
  |cons s q=>
   cases s<;>cases a
 |s::p,[],a=>by cases s<;>cases a
 |s::p,b::q,a=>by cases s<;>cases b<;>first|(cases a;done)|exact JJ (p:=p) (q:=q) a|rfl
def bC.CI (x:bC C st A w I rt fp) {id:Nat} (p:au st.h id=some G) {ap:Loc} {R:adY} (W:aW w G.1 none (rt id) j y ap R) {ad:List (Int×n.den)} (c1:df G.1 G.2 j (.mp n) (some (ad,b))):∃c K H,R=[.map (some c)]/\c∈fp id/\(∀q a,bj I C.B q a->a≠c)/\fO (bj I C.B) w n c ad b K H/\∀{k:Array MapEntry} {e:Nat} {F:List (Int×n.den)} {Q:List (Int×Nat×n.den)} {s:G.1.den},fO (bj I C.B) (fb w c k e) n c F e k Q->jv w (fb w c k e) c->dK G.1 G.2 j (.mp n) (some (F,e)) s->∃el a4,bC C ⟨kill [id] [(id,j++[.deref])] st.g,(id,⟨G.1,s⟩)::del [id] st.h⟩ A (fb w c k e) I el a4:=by
 obtain⟨d4,M,T⟩:=x.tree id G p;obtain⟨f3,fn,ft,ek,bd,bl,bs,v,fz,bB,ce⟩:=yt j (loc:=none) d4 (λ_ _ l=>by cases l) M (λ_ _ l=>by cases l) (x.notM p) c1;obtain⟨a0,al,J⟩:=W.iF bd;subst a0;subst al;subst J;obtain⟨c,K,H,rfl,rfl,L⟩:=bl.LC;have z:c∈fp id:=v.mem_iff.2 ac;have S:∀q a,bj I C.B q a->a≠c:=λq a d f=>x.notM p c z q (f▸d);refine⟨c,K,H,rfl,z,S,L,?_⟩;intro k e F Q s co cs Z;have X:=v.nodup_iff.1 M;rw[iq] at X;have Y:∀a∈ek,a≠c:=λa d f=>X.2.2 c ac a d f.symm;have D:=Za (es':=k) (c':=e) L.h;have cv:=Zb (es':=k) (c':=e) L.h;have ab:∀a,a≠c->bT w (fb w c k e) a:=λa d=>Dx d;obtain⟨fs,a3,d6,_,d7,_,O,_,f0⟩:=bB (fb w c k e) (bj I C.B) [.map (some c)] (some (F,e)) [c] s (λ_ _ l=>l) (λa d=>by
   have dl:a≠c:=by
    rcases d with⟨q,ds⟩|d|⟨o,d2⟩
    ·exact S q a ds
    ·exact Y a d
    cases d2
   exact⟨λu _=>D _,λu=>cv _,λu=>by rw[D],(ab a dl).2⟩)
  (aT.LD co) (λ_ _=>rfl) (λav d8 f=>by
   have:=(bs av d8 f).1;exactλu an t=>by rw[D];exact this u an t) Z
 obtain rfl:=d7 rfl (.inr rfl);have fT:=(T c z).2.2.1;have i:l5 C st w (fb w c k e) I I rt fp [id] [(id,j++[.deref])] [(id,⟨G.1,s⟩)] (λ_=>rt id) (λ_=>a3):=by
  refine⟨by rw[Oa];exact a2 _,rfl,rfl,rfl,?_,?_,λ_ l=>l,λ_ l=>.inl l,?_,?_,?_,?_⟩
  ·intro a _ d;exact zq (λf=>d id ac G p (f▸z))
  ·intro a _;by_cases f:a=c
   ·subst f;exact cs
   exact .of_heap (zq f)
  ·intro N P i;rw[b1] at i;split at i
   ·rename_i f;subst f;cases i;refine⟨.inl ac,d6,?_,λa d=>?_⟩
    ·rw[O.nodup_iff,<-v.nodup_iff];exact M
    have V:a∈fp id:=v.mem_iff.2 (O.mem_iff.1 d);obtain⟨ax,d9,ed,f5⟩:=T a V;exact⟨ax,by rw[Oa];exact ed,.inr ⟨id,ac,G,p,V⟩⟩
   cases i
  ·intro N u P an m t c2;rw[b1] at m t;split at m
   ·split at t
    ·rename_i al J;exact absurd (al.symm.trans J) c2
    cases t
   cases m
  ·intro N m P i;simp only[eI] at m;subst m;rw[p] at i;obtain rfl:=ee i;refine⟨⟨G.1,s⟩,by rw[b1,ai rfl],rfl,rfl,?_,λam f8 f4 ex _ d3=>d3.cells D⟩;have ci:=W.wA (r:=[.deref]);have:∃em,dR (.mp n) [.deref]=some em:=⟨n,ZZ n⟩;rw[ci];exact this
  intro N m P i am f7 f6 f1 eq f2 E d1 d0 U d5;simp only[eI] at m;subst m;rw[p] at i;obtain rfl:=ee i;have E:=JJ E;refine⟨⟨G.1,s⟩,by rw[b1,ai rfl],tm E Z U,λa d=>?_⟩;obtain⟨ax,d9⟩:=ce am _ _ _ _ _ E (by exact d1) U d0 d5 a d;exact⟨O.mem_iff.2 (lw _ ax),ab a (Y a ax)⟩
 exact⟨_,_,x.bU i⟩
def qh {α:Type} (c:Option (List (Int×α)×Nat)) (b:Int) (d:α):Option (Option (List (Int×α)×Nat)):=match c with
 |none=>none
 |some a=>some (some (ht a.1 b d,bif (ev a.1 b).isSome then a.2 else a.2+1))
def m6 {f:Type} (tt:List (TypeId×aj)) (i:List (Nat×aH)) (h:TypeId) (n d m:ao) (g:bu->Option f):Option f:=
 match n with
 |.ref id c=>match au i id with
  |some a=>match jR tt h,d,m with
   |some l,.val (.int .i64) d,.val p e=>match dR a.1 c with
    |some (.mp b)=>bif ba l b then match gS b e with
     |some e=>(gI a.1 a.2 c (.mp b)).bind λj=>(qh (α:=b.den) j d e).bind λk=>(li a.1 a.2 c (.mp b) k).bind λo=>g ⟨none,[id],[(id,c++[.deref])],[(id,⟨a.1,o⟩)]⟩
     |none=>none
     else none
    |_=>none
   |_,_,_=>none
  |none=>none
 |_=>none
def Ub {α:Type} (c:Option (List (Int×α)×Nat)) (b:Int):Option (Option (List (Int×α)×Nat)):=match c with
 |none=>none
 |some a=>some (some (hY a.1 b,a.2))
def qj {e:Type} (tt:List (TypeId×aj)) (h:List (Nat×aH)) (g:TypeId) (l d:ao) (f:bu->Option e):Option e:=
 match l with
 |.ref id b=>match au h id with
  |some a=>match jR tt g,d with
   |some k,.val (.int .i64) d=>match dR a.1 b with
    |some (.mp c)=>bif ba k c then
     (gI a.1 a.2 b (.mp c)).bind λi=>(Ub (α:=c.den) i d).bind λj=>(li a.1 a.2 b (.mp c) j).bind λm=>f ⟨none,[id],[(id,b++[.deref])],[(id,⟨a.1,m⟩)]⟩
     else none
    |_=>none
   |_,_=>none
  |none=>none
 |_=>none
theorem LJ {D:Type} {A:D} {s:bu->Option D} {f e:Operand} (j:o.op=.mapUpdate c f m e\/o.op=.insert c f m e) (T:o.dst=none) (b:m6 E.tt st.h c (aV st.g f) (aV st.g m) (aV st.g e) s=some A):dA E C o st (λbB=>∃u,s u=some A/\bB=u.app st):=by
 rintro a w ⟨I,rt,fp,i⟩ next dl X
 have q:=i.aV f;have d:=i.aV m;have p:=i.aV e;unfold m6 at b;split at b
 case h_2=>cases b
 rename_i id d2 J;split at b
 case h_2=>cases b
 rename_i ed y;split at b
 case h_2=>cases b
 rename_i co k d9 d7 S F H;obtain⟨cs,c2,ce,ci,d3⟩:=jR.ok S;split at b
 case h_2=>cases b
 rename_i r Z;cases n:ba co r with
 |false=>rw[n] at b;cases b
 |true=>
 rw[n] at b;simp only[cond_true] at b;split at b
 case h_2=>cases b
 rename_i d6 am;obtain⟨a0,V,L⟩:=dp.1 b;obtain⟨d1,v,M⟩:=dp.1 L;obtain⟨d8,an,N⟩:=dp.1 M;cases a0 with
 |none=>cases v
 |some a3=>
 obtain⟨ap,t⟩:=a3;cases v;cases jk am;rw[J] at q;rw[F] at d;rw[H] at p;generalize ad:a.eval f=d5 at q;generalize W:a.eval m=d0 at d;generalize ab:a.eval e=d4 at p;cases d with|val bl=>
 obtain⟨_,rfl⟩:=bl;cases p with|val B=>
 cases q with|ref z x=>
 rw[y] at z;cases z;obtain⟨l,ds,cv,rfl,n,Q,O,U⟩:=i.CI y x (ho V);have:=x.ty;rw[Z] at this;cases this;obtain⟨G,c1,ax,a4,bd⟩:=O.update (P:=E.P) ce ci k B.len B;obtain⟨bs,K,R⟩:=U (a4 (λav m d=>⟨d,Q av m d⟩)) bd (lR an);unfold Oper.wp;have Y:(execOp a.eval o).run E.P w=.ok .skip (fb w l G (bif (ev ap k).isSome then t else t+1)):=by
  have this:∀r:aj,bO (.mp r) [Value.map (some l)]=.map (some l):=λ_=>rfl;rcases j with j|j<;>
  ·simp only[execOp,j,ad,W,ab,Sem.run_bind];rw[this,show bO (.int .i64) [Value.int .i64 k]=.int .i64 k from rfl,ax];rfl
 rw[Y];show next (a.put o.dst undef) _
 rw[T];refine X _ _ _ ⟨_,N,?_⟩ rfl ⟨I,bs,K,R⟩;rfl
theorem Ul {y:Type} {x:y} {p:bu->Option y} {e:Operand} (U:o.op=.call {callee:=.builtin .delete,args:=#[e,m],argTypes:=#[c,q]}) (O:o.dst=none) (b:qj E.tt st.h c (aV st.g e) (aV st.g m) p=some x):dA E C o st (λa0=>∃r,p r=some x/\a0=r.app st):=by
 rintro a w ⟨I,rt,fp,i⟩ next ci T
 have k:=i.aV e;have d:=i.aV m;unfold qj at b;split at b
 case h_2=>cases b
 rename_i id c2 D;split at b
 case h_2=>cases b
 rename_i d1 u;split at b
 case h_2=>cases b
 rename_i bd l N A;obtain⟨bl,ce,a3,a4,dl⟩:=jR.ok N;split at b
 case h_2=>cases b
 rename_i n W;cases j:ba bd n with
 |false=>rw[j] at b;cases b
 |true=>
 rw[j] at b;simp only[cond_true] at b;obtain⟨ab,R,G⟩:=dp.1 b;obtain⟨c1,s,H⟩:=dp.1 G;obtain⟨d0,Y,J⟩:=dp.1 H;cases ab with
 |none=>cases s
 |some ad=>
 obtain⟨cv,z⟩:=ad;cases s;rw[D] at k;rw[A] at d;generalize X:a.eval e=ds at k;generalize S:a.eval m=cs at d;cases d with|val ap=>
 obtain⟨_,rfl⟩:=ap;cases k with|ref v t=>
 rw[u] at v;cases v;obtain⟨f,co,bs,rfl,j,L,K,Q⟩:=i.CI u t (ho R);have:=t.ty;rw[W] at this;cases this;obtain⟨B,bB,ax,am,an⟩:=K.delete (P:=E.P) a3 a4 l o.type q;obtain⟨av,F,M⟩:=Q (am (λZ m d=>⟨d,L Z m d⟩)) an (lR Y);unfold Oper.wp;have V:(execOp a.eval o).run E.P w=.ok (.value (.tuple #[])) (fb w f B z):=(by simp only[execOp,U,resolve,invoke,builtin,Sem.run_bind,Sem.run_pure,Result.andThen_ok,wW,fr,qO,X,S];have this:∀n:aj,bO (.mp n) [Value.map (some f)]=.map (some f):=λ_=>rfl;rw[this,show bO (.int .i64) [Value.int .i64 l]=.int .i64 l from rfl,ax];rfl);rw[V];show next (a.put o.dst (.tuple #[])) _
 rw[O];refine T _ _ _ ⟨_,J,?_⟩ rfl ⟨I,av,F,M⟩;rfl
def ub (c:List (Nat×aH)) (f g:ao):Option (Nat×List a5×Nat×aH):=match f,g with
 |.ref id (e::d),.ref a []=>match au c a with
  |some b=>match b.1 with
   |.osl h=>match h.pure with
    |true=>none
    |false=>some (id,e::d,a,b)
   |_=>none
  |none=>none
 |_,_=>none
def w7 {h:Type} (tt:List (TypeId×aj)) (e:List (Nat×aH)) (b:Nat) (j:TypeId) (id:Nat) (c:List a5) (f:Nat) (k:aH) (i:bu->Option h):Option h:=
 match fh tt j,au e id,au e b with
 |some l,some d,none=>match dR d.1 c with
  |some (.osl a)=>match gS (.osl a) k.2 with
   |some g=>bif ba l a&&(Nat.ble a.size 1300&&(a.jq&&!(Nat.beq f id))) then
    (gI d.1 d.2 c (.osl a)).bind λm=>(bN (List.length (α:=a.den) m+List.length (α:=a.den) g)).bind λ_=>i ⟨some (b,.app id c a g [b,f]),[id],[(id,c),(id,[])],[(b,⟨.di,()⟩),(id,d)]⟩
    else none
   |none=>none
  |_=>none
 |_,_,_=>none
def mQ {g:Type} (tt:List (TypeId×aj)) (h:List (Nat×aj)) (a:List (Nat×aH)) (d:Nat) (c:TypeId) (e f:ao) (b:bu->Option g):Option g:=match ub a e f with
 |some (id,j,i,k)=>w7 tt a d c id j i k b
 |none=>nD tt h a d c e f b
def GV {id:Nat} (a:ub e d t=some (id,j,b,G)):d=.ref id j/\t=.ref b []/\au e b=some G:=by
 unfold ub at a;split at a
 ·split at a
  ·rename_i f c;split at a
   ·split at a
    ·cases a
    cases a;exact⟨rfl,rfl,c⟩
   cases a
  cases a
 cases a
theorem Qn {K:Type} {F:K} {s:bu->Option K} {H:Operand} (z:o.op=.call {callee:=.builtin .append,args:=#[H,m],argTypes:=#[c,c]}) (v:o.dst=some b) (x:C.ok b) (d:mQ E.tt k st.h b c (aV st.g H) (aV st.g m) s=some F):dA E C o st (λa4=>∃e,s e=some F/\a4=e.app st):=by
 unfold mQ at d;split at d
 case h_2=>exact dA.app z v x (Qk d (λe q=>⟨e,q,rfl⟩))
 rename_i id cs i bd ab;obtain⟨R,S,n⟩:=GV ab;unfold w7 at d;split at d
 case h_2=>cases d
 rename_i bl d0 P am Q;split at d
 case h_2=>cases d
 rename_i j ce;split at d
 case h_2=>cases d
 rename_i dl ap;cases f:(ba bl j&&(Nat.ble j.size 1300&&(j.jq&&!(Nat.beq i id)))) with
 |false=>rw[f] at d;cases d
 |true=>
 rw[f] at d;simp only[bp] at f;obtain⟨V,ad,Y,l⟩:=f;have l:i≠id:=λe=>(by subst e;rw[pC] at l;cases l);obtain⟨c2,an,N⟩:=dp.1 d;obtain⟨_,W,O⟩:=dp.1 N;obtain⟨ds,J⟩:=bd;cases jk ap;rintro a w ⟨I,rt,fp,p⟩ next bs Z
 refine IT (S2:=[i]) z v x p Z P V (e4 ad) Y R am Q (ho an) ?_ ?_ (vV W) ⟨_,O,rfl⟩
 ·have r:=p.aV m;rw[S] at r;generalize ci:a.eval m=c1 at r;cases r with|ref D X=>
  rw[n] at D;cases D;obtain⟨rfl,rfl,rfl⟩:=aW.e1.1 X;obtain⟨G,a3,cv⟩:=p.tree i _ n;have av:=G;obtain⟨t,u,A,bB⟩:=av;have a0:aT (bj I C.B) w (.osl j) [.slice t (List.length (α:=j.den) J) u] J (fp i):=(by rw[<-A];exact G);obtain⟨_,_,M,q,T,U,_⟩:=i7.osl a0;exact⟨t,u,M,by rw[A];rfl,q,U a3,λL f=>⟨i,ac,_,n,T L f⟩⟩
 intro co y;simp only[eI] at y;subst y;exact⟨l,_,n⟩
end
end
section
section
variable {P:Program} {w:World} {b c:Nat} {A:Array MapEntry} {M:dg->Nat->Prop} {t:aj} {l:List (Int×t.den)} {L:List (Int×Nat×t.den)}
def Ht {d f:Array MapEntry} {e:Nat} (g:w.heap[b]?=some (.map A c)) (h:fb w b d W=fb w b f e):d=f/\W=e:=by have a:=mB (es':=d) (c':=W) g;rw[h,mB g] at a;simp only[bS,Obj.map.injEq] at a;exact⟨a.1.symm,a.2.symm⟩
def fO.I5 (f:fO M w t b l c A L) (h:A[W]?=some O):∃d a,L[W]?=some d/\O=⟨.int .i64 d.1,bO t a,d.2.1⟩:=by have i:W<L.length:=(by have:=(nm.1 h).1;rw[f.n] at this;exact this);obtain⟨a,_,g,_⟩:=f.e W L[W] (a9 i);rw[h] at g;exact⟨L[W],a,a9 i,ee g⟩
def fO.Z5 (h:fO M w t b l c A L) {a:Nat} {e f:Int×Nat×t.den} (d:L[W]?=some e) (m:L[a]?=some f) (g:e.1=f.1):W=a:=by have n:=h.nP.wd;have k:W<(L.map (·.1)).length:=(by have:=(eT.1 d).1;simpa using this);apply(List.getElem?_inj k n (i:=W) (j:=a)).1;rw[fB,fB,d,m];simp[g]
def fO.Z4 (h:fO M w t b l c A L) {d:Nat} {f a:Int×Nat×t.den} (e:L[W]?=some f) (m:L[d]?=some a) (g:f.2.1=a.2.1):W=d:=by have n:=h.nP.2.2.1;have k:W<(L.map λa=>a.2.1).length:=(by have:=(eT.1 e).1;simpa using this);apply(List.getElem?_inj k n (i:=W) (j:=d)).1;rw[fB,fB,e,m];simp[g]
def LB {c:Array a} {d e:a->a} (f:∀b,c[W]?=some b->d b=e b):c.modify W d=c.modify W e:=by
 apply Array.ext_getElem?;intro i;rw[wI,wI];split
 ·rename_i b;subst b;cases g:c[W]? with
  |none=>rfl
  |some h=>simp[f h g]
 rfl
def fO.entry (d:fO M w t b l c A L) {B z:TypeId} {R:IntKind} (n:P.underlying q=some (.map B z)) (g:P.underlying B=some (.int R)) (a:Int) {y:t.den} (O:E.length=t.size) (I:aT M w t E y []) (Q:∀w,(zeroValue z).run P w=.ok (bO t E) w):∃(f:Array MapEntry) (o:List (Int×Nat×t.den)) (v:adY) (p e:Nat),(Instr.mapEntry q (.map (some b)) (.int .i64 a)).run P w=.ok (.tuple #[bO t v,goInt ((p:Nat):Int)]) (fb w b f (bif (ev l a).isSome then c else c+1))/\aT M w t v ((ev l a).getD y) []/\f[e]?=some (MapEntry.mk (.int .i64 a) (bO t v) p)/\(∀{C:dg->Nat->Prop},(∀J a,M J a->C J a/\a≠b)->fO C (fb w b f (bif (ev l a).isSome then c else c+1)) t b (ht l a ((ev l a).getD y)) (bif (ev l a).isSome then c else c+1) f o)/\jv w (fb w b f (bif (ev l a).isSome then c else c+1)) b:=by
 rcases d.find (P:=P) g a with⟨x,N,s⟩|⟨e,p,T,r,x,N,s,u,D,F⟩
 ·obtain⟨f,o,ax,i,j⟩:=d.update (P:=P) n g a O I;rw[x] at ax i j|-;simp only[Option.isSome_none,cond_false,Option.getD_none] at ax i j|-;have k:(Instr.mapUpdate q (.map (some b)) (.int .i64 a) (bO t E)).run P w=.ok () (fb w b (A.push ⟨.int .i64 a,bO t E,c⟩) (c+1)):=by
   simp only[Instr.mapUpdate,Sem.run_bind,run_underlying n,Result.andThen_ok,run_getObj_map d.h,nb g,s];exact pb d.h
  rw[ax] at k;simp only[Result.ok.injEq,true_and] at k;obtain⟨rfl,_⟩:=Ht d.h k;refine⟨_,o,E,c,A.size,?_,I,by rw[Array.getElem?_push,ai rfl],i,j⟩;simp only[Instr.mapEntry,Sem.run_bind,run_underlying n,Result.andThen_ok,run_getObj_map d.h,nb g,s,Q,pb d.h,Sem.run_pure];rfl
 obtain⟨f,o,ax,i,j⟩:=d.update (P:=P) n g a s D;rw[x] at ax i j|-;simp only[z2,cond_true,jE] at ax i j|-;have H:(Instr.keyThatStays (((A[e]?).map (·.key)).getD (.int .i64 a)) (.int .i64 a)).run P w=.ok (.int .i64 a) w:=(by rw[u];simp[Instr.keyThatStays,Instr.sameBits]);have k:(Instr.mapUpdate q (.map (some b)) (.int .i64 a) (bO t r)).run P w=.ok () (fb w b (A.modify e λm=>{m with key:=.int .i64 a,val:=bO t r}) c):=(by simp only[Instr.mapUpdate,Sem.run_bind,run_underlying n,Result.andThen_ok,run_getObj_map d.h,nb g,F,H];exact pb d.h);rw[ax] at k;simp only[Result.ok.injEq,true_and] at k;obtain⟨rfl,_⟩:=Ht d.h k;refine⟨_,o,r,p,e,?_,D,by rw[wI,ai rfl,u];rfl,i,j⟩;have al:(A.modify e λm=>{m with key:=.int .i64 a,val:=bO t r})=A.modify e λm=>{m with key:=.int .i64 a}:=LB λm G=>(by rw[u] at G;cases G;rfl);have K:((A[e]?).map λS=>((S.born:Nat):Int)).getD 0=(p:Int):=(by rw[u];rfl);simp only[Instr.mapEntry,Sem.run_bind,run_underlying n,Result.andThen_ok,run_getObj_map d.h,nb g,F,H,pb d.h,Sem.run_pure,al,K];rfl
def fO.R4 (d:fO M w t b l c A L) {a:Int} (i:A[W]?=some O) (o:O.key=.int .i64 a) {y J:TypeId} {an:IntKind} (C:P.underlying q=some (.map y J)) (n:P.underlying y=some (.int an)) {I:t.den} (T:E.length=t.size) (am:aT M w t E I []):∃f k,(Instr.entryStore q (.map (some b)) (.int .i64 (O.born:Int)) (bO t E)).run P w=.ok () (fb w b f (bif (ev l a).isSome then c else c+1))/\(∀{z:dg->Nat->Prop},(∀G a,M G a->z G a/\a≠b)->fO z (fb w b f (bif (ev l a).isSome then c else c+1)) t b (ht l a I) (bif (ev l a).isSome then c else c+1) f k)/\jv w (fb w b f (bif (ev l a).isSome then c else c+1)) b:=by
 obtain⟨j,a3,p,D⟩:=d.I5 i;have F:j.1=a:=(by rw[D] at o;simpa using o);rcases d.find (P:=P) n a with⟨B,m,K⟩|⟨e,ci,co,a0,B,m,K,N,bd,Q⟩
 ·exact absurd F (m j (lx p))
 obtain rfl:e=W:=d.Z5 m p (by simp[F]);obtain⟨f,k,ax,u,v⟩:=d.update (P:=P) C n a T am;rw[B] at ax u v|-;simp only[z2,cond_true] at ax u v|-;have Z:(Instr.keyThatStays (((A[e]?).map (·.key)).getD (.int .i64 a)) (.int .i64 a)).run P w=.ok (.int .i64 a) w:=(by rw[N];simp[Instr.keyThatStays,Instr.sameBits]);have x:(Instr.mapUpdate q (.map (some b)) (.int .i64 a) (bO t E)).run P w=.ok () (fb w b (A.modify e λO=>{O with key:=.int .i64 a,val:=bO t E}) c):=(by simp only[Instr.mapUpdate,Sem.run_bind,run_underlying C,Result.andThen_ok,run_getObj_map d.h,nb n,Q,Z];exact pb d.h);rw[ax] at x;simp only[Result.ok.injEq,true_and] at x;obtain⟨rfl,_⟩:=Ht d.h x;refine⟨_,k,?_,u,v⟩;have al:(A.modify e λO=>{O with key:=.int .i64 a,val:=bO t E})=A.modify e λO=>{O with val:=bO t E}:=LB λa4 g=>(by rw[i] at g;cases g;rw[<-o]);have V:A.findIdx? (λap=>(ap.born:Int)==(O.born:Int))=some e:=by
  rw[Array.findIdx?_eq_some_iff_getElem];have X:=(nm.1 i).1;refine⟨X,?_,λr ce ab=>?_⟩
  ·rw[(nm.1 i).2];simp
  have Y:r<A.size:=U;obtain⟨H,av,ad,g⟩:=d.I5 (wH Y);have bB:(A[r].born:Int)=(O.born:Int):=(by simpa using ab);have S:H.2.1=j.2.1:=(by have bl:A[r].born=H.2.1:=(by rw[g]);have bs:O.born=j.2.1:=(by rw[D]);omega);have:=d.Z4 ad p S;omega
 have R:∀(s:Int) (w:World),(asInt (.int .i64 s)).run P w=.ok s w:=λs w=>(by simp[asInt,asIntOf]);simp only[Instr.entryStore,Sem.run_bind,Sem.run_pure,Result.andThen_ok,run_getObj_map d.h,R,V,pb d.h,al];rfl
end
def qk {f:Type} (tt:List (TypeId×aj)) (j:List (Nat×aH)) (i:Nat) (h:TypeId) (m a:ao) (g:bu->Option f):Option f:=
 match m with
 |.ref id c=>match au j id with
  |some b=>match jR tt h,a with
   |some l,.val (.int .i64) a=>match dR b.1 c with
    |some (
     .mp t)=>match kS t with
     |some e=>bif ba l t then
      (gI b.1 b.2 c (.mp t)).bind λd=>(qh (α:=t.den) d a ((iZ d a).getD e)).bind λk=>(li b.1 b.2 c (.mp t) k).bind λn=>
       g ⟨some (i,.dM [.val t ((iZ (α:=t.den) d a).getD e),.jL id c a]),[id],[(id,c++[.deref])],[(id,⟨b.1,n⟩)]⟩
      else none
     |none=>none
    |_=>none
   |_,_=>none
  |none=>none
 |_=>none
def p5 {b:Type} (tt:List (TypeId×aj)) (e:List (Nat×aH)) (d:TypeId) (k i j:ao) (c:bu->Option b):Option b:=
 match k,i with
 |.ref id a,.jL f h g=>bif Nat.beq f id&&kM h a then m6 tt e d (.ref id a) (.val (.int .i64) g) j c else none
 |_,_=>none
def dK.jO:∀{p:List a5} {τ:aj} {e g:τ.den} {d:aj} {f:d.den},dK τ e p d f g->df τ g p d f
 |[],τ,e,g,d,f,c=>by obtain⟨j,c⟩:=dK.e1.1 c;exact df.e1.2 ⟨j,c⟩
 |s::p,τ,e,g,d,f,c=>by
  cases τ<;>cases s<;>simp only[dK] at c
  case osl.idx t i=>
   obtain⟨j,h,k,c,rfl⟩:=c;have l:i<e.length:=(eT.1 k).1;exact⟨h,by rw[kV l],dK.jO (p:=p) c⟩
  case optr.deref t=>exact dK.jO (p:=p) (τ:=t) c
  case st.unst t=>exact dK.jO (p:=p) (τ:=t) c
  case pr.fst a b=>obtain⟨h,c,rfl⟩:=c;exact dK.jO (p:=p) c
  case pr.snd a b=>obtain⟨h,c,rfl⟩:=c;exact dK.jO (p:=p) c
def KV:∀a:List a5,fE (a++[.deref]) a=true
 |[]=>rfl
 |s::a=>by cases s<;>exact KV a
def TH (id:Nat) (a:List a5):eu [id] [(id,a++[.deref])] (.ref id a)=.ref id a:=by
 have:kk [(id,a++[.deref])] (.ref id a)=true:=by
  cases a with
  |nil=>simp[kk]
  |cons b a=>
   have:=KV (b::a);simp only[kk,List.any_cons,List.any_nil,Bool.or_false,pC,Bool.true_and];exact this
 show dO _ _ _=_;unfold dO;rw[show iH [id] [(id,a++[.deref])] (.ref id a)=kk [(id,a++[.deref])] (.ref id a) from rfl,this];simp
def Xo {id:Nat} (a:aV D m=.ref id j):aV (kill [id] [(id,j++[.deref])] D) m=.ref id j:=by
 cases m with
 |tmp c=>
  have a:gt D c=.ref id j:=a;have b:=qc [id] [(id,j++[a5.deref])] D c;rw[a] at b;exact b.trans (TH id j)
 |const d=>exact absurd a (by cases d<;>simp[aV])
 |global D=>cases a
 |func e=>cases a
section
variable {E:eh} {C:dD} {st:aQ} {o:Oper} {Q:aQ->Prop}
def Uu {a:Act} {e:Nat->Prop} (k:bC C i a.tmps v e z A) {id:Nat} (r:aV i.g m=.ref id j) (c:au i.h id=some G) {t:aj} {I:List (Int×t.den)} (x:df G.1 G.2 j (.mp t) (some (I,l))) {b:Nat} (H:a.eval m=.map (some b)) {f:Array MapEntry} (D:v.heap[b]?=some (.map f l)) (y:f[W]?=some O) {n:Int} (u:O.key=.int .i64 n):bL (bj e C.B) v i.h z A (.jL id j n) (.int .i64 (O.born:Int)):=by
 have d:=k.aV (a:=a) m;rw[r,H] at d;generalize F:Value.map (some b)=S at d;cases d with|ref p o=>
 rename_i R T Q L;rw[c] at p;obtain rfl:=ee p;obtain⟨rfl,N,E,_,w⟩:=k.jO c x o;rcases E.Gr with⟨O,_⟩|⟨q,P,K,M,J,_,rfl,rfl,_⟩
 ·cases O
 have s:b=q:=(by simpa[bO] using F);subst s;exact .jL c o (w b ac) (mn.2 D) y u
theorem Uv {V:a} {z:bu->Option a} {p:Operand} (ci:o.op=.mapEntry q p m) (a0:o.dst=some W) (ap:C.ok W) (d:qk E.tt st.h W q (aV st.g p) (aV st.g m) z=some V):dA E C o st (λy=>∃G,z G=some V/\y=G.app st):=by
 rintro j w ⟨r,f5,fT,s⟩ next fz ce
 have v:=s.aV p;have e:=s.aV m;unfold qk at d;split at d
 case h_2=>cases d
 rename_i id d0 I;split at d
 case h_2=>cases d
 rename_i Z Q;split at d
 case h_2=>cases d
 rename_i ek n an ad;obtain⟨fs,ab,d8,d9,ed⟩:=jR.ok an;split at d
 case h_2=>cases d
 rename_i t cv;split at d
 case h_2=>cases d
 rename_i el c1;cases u:ba ek t with
 |false=>rw[u] at d;cases d
 |true=>
 rw[u] at d;simp only[cond_true] at d;obtain⟨ds,bd,f⟩:=dp.1 d;obtain⟨f4,k,i⟩:=dp.1 f;obtain⟨Y,T,J⟩:=dp.1 i;clear d f i;cases ds with
 |none=>cases k
 |some d1=>
 obtain⟨l,c⟩:=d1;rw[I] at v;rw[ad] at e;generalize S:j.eval p=f7 at v;generalize bs:j.eval m=f3 at e;cases e with|val d6=>
 obtain⟨_,rfl⟩:=d6;cases v with|ref R O=>
 rw[Q] at R;cases R;obtain⟨b,A,L,rfl,f0,M,K,a4⟩:=s.CI Q O (ho bd);have:=O.ty;rw[cv] at this;cases this;obtain⟨f2,fp,em,eq,ex,fn⟩:=uD (ed.lay u) c1;have c2:∀w,(zeroValue ab).run E.P w=.ok (bO t fp.cells.toList) w:=λw=>(by rw[<-ex];simp[zeroValue,typeInfo,em,eq]);have U:=fn (bj r C.B) w;obtain⟨H,ft,F,y,f1,ax,d2,d3,d4,d5⟩:=K.entry (P:=E.P) d8 d9 n U.len U c2;have bB:iZ (α:=t.den) (some (l,c)) n=ev l n:=rfl;rw[bB] at k J;simp only[qh,bS] at k;subst k;generalize(bif (ev l n).isSome then c else c+1)=D at*;generalize(ev l n).getD el=X at*;obtain⟨d7,am,N⟩:=a4 (d4 (λx m e=>⟨e,M x m e⟩)) d5 (lR T);have cs:(execOp j.eval o).run E.P w=.ok (.value (.tuple #[bO t F,goInt ((y:Nat):Int)])) (fb w b H D):=(by simp only[execOp,ci,S,bs,Sem.run_bind];have this:∀t:aj,bO (.mp t) [Value.map (some b)]=.map (some b):=λ_=>rfl;rw[this,show bO (.int .i64) [Value.int .i64 n]=.int .i64 n from rfl,ax];rfl);unfold Oper.wp;rw[cs];show next (j.put o.dst _) _
 rw[a0];have bl:au ((id,(⟨Z.1,Y⟩:aH))::del [id] st.h) id=some ⟨Z.1,Y⟩:=(by rw[b1,ai rfl]);have co:aT (bj r C.B) (fb w b H D) t F X []:=d2.mono (λx m e=>⟨e,Dx (M x m e)⟩) ac;have a3:=Uu N (Xo I) bl (dK.jO (lR T)) S (mB K.h) d3 (n:=n) rfl;refine ce _ _ _ ⟨_,J,?_⟩ rfl ⟨r,d7,am,N.put ap (av:=.dM [.val t X,.jL id d0 n]) ?_⟩
 ·rfl
 refine .dM rfl (λdl av f6 f i=>?_)
 match dl with
 |0=>simp at f i;subst f;subst i;exact .val co
 |1=>simp at f i;subst f;subst i;exact a3
 |n+2=>simp at f
theorem R9 {N:a} {x:bu->Option a} {k j:Operand} (a4:o.op=.entryStore q k m j) (ad:o.dst=none) (d:p5 E.tt st.h q (aV st.g k) (aV st.g m) (aV st.g j) x=some N):dA E C o st (λm=>∃y,x y=some N/\m=y.app st):=by
 rintro e w ⟨Q,fp,el,i⟩ next ek a3
 have v:=i.aV k;have r:=i.aV m;have u:=i.aV j;unfold p5 at d;split at d
 case h_2=>cases d
 rename_i id ds cs d0 dl V T;cases f:(Nat.beq cs id&&kM d0 ds) with
 |false=>rw[f] at d;cases d
 |true=>
 rw[f] at d;rw[bp] at f;obtain rfl:=eF f.1;obtain rfl:=kM.ok f.2;simp only[cond_true] at d;unfold m6 at d;simp only at d;split at d
 case h_2=>cases d
 rename_i f4 s;split at d
 case h_2=>cases d
 rename_i d7 fn f3 f1 ab B U;simp only[ao.val.injEq,heq_eq_eq,true_and] at B;subst B;obtain⟨d8,ed,d5,d6,ft⟩:=jR.ok ab;split at d
 case h_2=>cases d
 rename_i t bs;cases H:ba d7 t with
 |false=>rw[H] at d;cases d
 |true=>
 rw[H] at d;simp only[cond_true] at d;split at d
 case h_2=>cases d
 rename_i f0 ci;obtain⟨c2,an,D⟩:=dp.1 d;obtain⟨ex,n,F⟩:=dp.1 D;obtain⟨f2,co,X⟩:=dp.1 F;clear d D F;cases c2 with
 |none=>cases n
 |some d1=>
 obtain⟨l,c⟩:=d1;cases jk ci;rw[V] at v;rw[T] at r;rw[U] at u;generalize ce:e.eval k=fT at v;generalize bl:e.eval m=fs at r;generalize bB:e.eval j=fz at u;cases u with|val O=>
 cases r with|jL M a0 em J ap av=>
 rw[s] at M;cases M;cases v with|ref K p=>
 rw[s] at K;cases K;obtain⟨b,A,L,rfl,eq,Y,G,am⟩:=i.CI s p (ho an);have:=p.ty;rw[bs] at this;cases this;obtain⟨al,_,z⟩:=p.iF a0;simp only[gu,Value.map.injEq,bS,and_true] at z;subst z;rw[mn.2 G.h] at J;cases J;obtain⟨S,d9,ax,d2,d3⟩:=G.R4 (P:=E.P) ap av d5 d6 O.len O;simp only[qh,bS] at n;subst n;generalize(bif (ev l dl).isSome then c else c+1)=R at*;obtain⟨d4,W,Z⟩:=am (d2 (λc1 cv I=>⟨I,Y c1 cv I⟩)) d3 (lR co);unfold Oper.wp;have bd:(execOp e.eval o).run E.P w=.ok .skip (fb w b S R):=(by have this:∀t:aj,bO (.mp t) [Value.map (some b)]=.map (some b):=λ_=>rfl;simp only[execOp,a4,ce,bl,bB,Sem.run_bind];rw[this,ax];rfl);rw[bd];show next (e.put o.dst undef) _
 rw[ad];refine a3 _ _ _ ⟨_,X,?_⟩ rfl ⟨Q,d4,W,Z⟩;rfl
end
end
section
structure P7 where
 c:Code
 n:Nat
 pin:Option ad4
 ds:ad4
 α:Type
 f:aQ->Option α
 g:aQ->α->aQ
structure fM where
 tt:List (TypeId×aj)
 DE:List (Nat×ik)
 an:List (Nat×aj)
 n:Nat
 pin:ad4
 kg:List (Nat×ao)
 qa:ad6
 Zk:Option cU
 aw:adX
 adP:List P7
 hW:List sI
def H9 (b:Program) (c:TypeId):Prop:=∃a e d,b.info? c=some a/\a.size=1/\a.zero=some e/\e.cells.size=1/\b.underlying c=some d/\(match d with|.struct _|.array _ _=>true|_=>false)=false
def ys:List fQ->List ao->Bool
 |.c d _::a,.dv b _::as=>Nat.beq b d&&ys a as
 |.c _ _::_,_=>false
 |_::a,_::as=>ys a as
 |_,_=>true
def rH:List (Nat×ik)->Nat->List ao->Option ik
 |[],_,_=>none
 |(k,F)::l,f,as=>bif Nat.beq k f&&(ys F.ps as&&(ie 0 F.ps).isNone) then some F else rH l f as
theorem Gb:∀{e:List (Nat×ik)} {c:Nat} {as:List ao} {b:ik},rH e c as=some b->∃d,(d,b)∈e
 |[],_,_,_,a=>by cases a
 |(d,G)::e,c,as,b,a=>by
  simp only[rH] at a;cases f:(Nat.beq d c&&(ys G.ps as&&(ie 0 G.ps).isNone)) with
  |true=>grind
  |false=>
   rw[f] at a;obtain⟨h,g⟩:=Gb a;grind
theorem Gc:∀{d:List (Nat×ik)} {c:Nat} {as:List ao} {b:ik},rH d c as=some b->ie 0 b.ps=none
 |[],_,_,_,a=>by cases a
 |(k,G)::d,c,as,b,a=>by
  simp only[rH] at a;cases e:(Nat.beq k c&&(ys G.ps as&&(ie 0 G.ps).isNone)) with
  |true=>
   simp_all
  |false=>
   rw[e] at a;exact Gc a
def tp (ic:fM) (a:l4) (b:a.den):aQ:=⟨ic.kg++mW a.g b,tn a.h (tq a.g b)⟩
def fX (b:Nat) (c:ad4) (a:Nat):Bool:=Nat.blt a b&&!(du a c)
def al (ic:fM) {A:Type} (a:Operand->ao) (g:List (Nat×aH)) (r:Oper) (c:bu->Option A):Option A:=
 match r.dst with
 |none=>match r.op with
  |.store d e v=>qy ic.tt g d (a e) (a v) c
  |.mapUpdate d e o v=>m6 ic.tt g d (a e) (a o) (a v) c
  |.insert d e o v=>m6 ic.tt g d (a e) (a o) (a v) c
  |.entryStore d e F v=>p5 ic.tt g d (a e) (a F) (a v) c
  |.call {callee:=.builtin .delete,args:=xs,argTypes:=s}=>match xs.toList,s.toList with
   |[e,o],[d,_]=>qj ic.tt g d (a e) (a o) c
   |_,_=>none
  |_=>none
 |some b=>
  bif fX ic.n ic.pin b then
  match r.op with
  |.pick y e i=>match a y with
   |.val .bool j=>(match a e,a i with
    |.val k u,.val H v=>match gS (τ:=H) k v with
     |some v=>c ⟨some (b,.val k (bif j then u else v)),[],[],[]⟩
     |none=>none
    |u,v=>match j with
     |true=>c ⟨some (b,u),[],[],[]⟩
     |false=>c ⟨some (b,v),[],[],[]⟩)
   |_=>none
  |.call {callee:=.value z,args:=xs,argTypes:=_}=>match a z with
   |.dv l m=>
    match rH ic.DE l (xs.toList.map a++m) with
    |none=>none
    |some h=>bif Nat.beq h.f l then
     iX g (qz (xs.toList.map a++m) h.ps) h.ps (xs.toList.map a++m) λq=>(h.wv q).bind λj=>bif mb b ⟨[],g⟩ (xs.toList.map a++m) (eZ h.ps q j) (hM h.rs (g2 h.ps j)) then
      c ⟨some (b,uk b (hM h.rs (g2 h.ps j))),eM (xs.toList.map a++m) (eZ h.ps q j),vR (lc (xs.toList.map a++m) (eZ h.ps q j)),iI (xs.toList.map a++m) (eZ h.ps q j)++hO b (hq (hM h.rs (g2 h.ps j))) 0 (hM h.rs (g2 h.ps j))⟩ else none
     else none
   |_=>none
  |.call {callee:=.builtin .append,args:=xs,argTypes:=s}=>match xs.toList,s.toList with
   |[e,i],[d,x]=>bif Nat.beq d x then mQ ic.tt ic.an g b d (a e) (a i) c else none
   |_,_=>none
  |.call {callee:=.builtin .copy,args:=xs,argTypes:=s}=>match xs.toList,s.toList with
   |[e,i],[d,_]=>pP ic.tt g b d (a e) (a i) c
   |_,_=>none
  |.assign e=>match a e with
   |.val k i=>c ⟨some (b,.val k i),[],[],[]⟩
   |.dv l m=>c ⟨some (b,.dv l m),[],[],[]⟩
   |.addr id E=>c ⟨some (b,.addr id E),[],[],[]⟩
   |.cv v=>match au ic.an b with
    |none=>c ⟨some (b,.cv v),[],[],[]⟩
    |some k=>match k.pure&&oL k v with
     |true=>(hG k v.cells.toList).bind λi=>c ⟨some (b,.val k i),[],[],[]⟩
     |false=>(oD ic.an g b (.cv v)).bind c
   |v=>(oD ic.an g b v).bind c
  |.build d w=>qY ic.tt ic.an g a b d w.toList c
  |.mapEntry d e o=>qk ic.tt g b d (a e) (a o) c
  |.box d e=>sR ic.tt ic.an g b d (a e) c
  |.buildSlice d C w=>q0 ic.tt ic.an g a b d C w.toList c
  |_=>match jn ic.tt ic.an g a b r.op with
   |.dw t=>c ⟨some (b,t),[],[],[]⟩
   |.opt _ i l=>i.bind λp=>c ⟨some (b,l p),[],[],[]⟩
   |.new _ i G B=>bif Nat.beq B b then i.bind λp=>c ⟨some (b,.ref b []),[],[],[(b,G p)]⟩ else none
   |.no=>match fl ic.tt ic.an g a b r.op with
    |.dw t D=>c ⟨some (b,t),[],[],D⟩
    |.part _ I l=>(pick I).bind λp=>c ⟨some (b,(l p).1),[],[],(l p).2⟩
    |.bad=>none
  else none
def md (b:List (Nat×aH)) (a:ad4):Bool:=a.all λid=>match au b id with|some c=>FI c.1|none=>false
def iV (ic:fM) {A:Type} (e:Operand->ao) (b:List (Nat×aH)) (c:Oper) (f:bu->Option A):Option A:=
 match k6 ic.qa (tz c) e (qA c.op) with
 |[]=>al ic e b c f
 |F=>bif md b F then al ic (λh=>hn b F (e h)) (del F b) c λa=>bif a.keep.all (λg=>!du g.1 F) then f ⟨a.d,F++a.S,a.keep,a.put⟩ else none else none
def m0:fQ->Bool
 |.m _=>true
 |_=>false
def HD (ic:fM) (a:Operand->ao) (e:Oper):Option (Nat×List a5):=match e.op with
 |.call {callee:=.value z,args:=xs,argTypes:=_}=>match a z with
  |.dv d b=>match rH ic.DE d (xs.toList.map a++b) with
   |some c=>sa (xs.toList.map a++b) (c.ps.map m0)
   |none=>none
  |_=>none
 |_=>none
def Fc (ic:fM) {A:Type} (id:Nat) (k:a5) (j:List a5) (c:Operand->ao) (l:List (Nat×aH)) (p:Oper) (r:bu->Option A):Option A:=
 match p.dst with
 |none=>none
 |some g=>
  bif fX ic.n ic.pin g then
  match p.op with
  |.call {callee:=.value m,args:=xs,argTypes:=_}=>match c m with
   |.dv o d=>
    match rH ic.DE o (xs.toList.map c++d) with
    |none=>none
    |some a=>
     bif Nat.beq a.f o then
     match au l id with
     |none=>none
     |some h=>match dR h.1 (k::j) with
      |none=>none
      |some i=>match gI h.1 h.2 (k::j) i with
       |none=>none
       |some q=>
        match ep ((id,⟨i,q⟩)::del [id] l) (qz (ll id (xs.toList.map c++d) (a.ps.map m0)) a.ps) a.ps (ll id (xs.toList.map c++d) (a.ps.map m0)) with
        |none=>none
        |some e=>(a.wv e).bind λb=>bif mb g ⟨[],(id,⟨i,q⟩)::del [id] l⟩ (ll id (xs.toList.map c++d) (a.ps.map m0)) (eZ a.ps e b) (hM a.rs (g2 a.ps b))&&(du id (eM (ll id (xs.toList.map c++d) (a.ps.map m0)) (eZ a.ps e b))&&du id (lc (ll id (xs.toList.map c++d) (a.ps.map m0)) (eZ a.ps e b))) then
         match au (iI (ll id (xs.toList.map c++d) (a.ps.map m0)) (eZ a.ps e b)++hO g (hq (hM a.rs (g2 a.ps b))) 0 (hM a.rs (g2 a.ps b))) id with
         |none=>none
         |some s=>match gS i s.2 with
          |none=>none
          |some t=>(li h.1 h.2 (k::j) i t).bind λm=>
           r ⟨some (g,uk g (hM a.rs (g2 a.ps b))),eM (ll id (xs.toList.map c++d) (a.ps.map m0)) (eZ a.ps e b),(id,k::j)::vR (lc (ll id (xs.toList.map c++d) (a.ps.map m0)) (eZ a.ps e b)),(id,⟨h.1,m⟩)::(iI (ll id (xs.toList.map c++d) (a.ps.map m0)) (eZ a.ps e b)++hO g (hq (hM a.rs (g2 a.ps b))) 0 (hM a.rs (g2 a.ps b)))⟩
         else none
     else none
   |_=>none
  |_=>none
  else none
def Gy (ic:fM) (b:Operand->ao) (c:Oper):Option c7:=match c.dst,c.op with
 |some a,.binOp .eql d e g _=>match fh ic.tt d,b e,b g with
  |some _,.val (.bb _ h) f,.cv (.slice none 0 0)=>bif fX ic.n ic.pin a then some (a,List.length (α:=h.den) f) else none
  |_,_,_=>none
 |_,_=>none
def KR (tt:List (TypeId×aj)) (a:TypeId):Bool:=match au tt a with|some (.ptr _ _)=>true|_=>false
def Gx (b:List (Nat×aH)):ao->Option Bool
 |.val (.ptr _ a) d=>some (Option.isNone (α:=a.den) d)
 |.ref id c=>match au b id with
  |some a=>match dR a.1 c with
   |some (.optr _)=>some false
   |_=>none
  |none=>none
 |_=>none
def G6 (ic:fM) (c:Operand->ao) (f:List (Nat×aH)) (d:Oper):Option (Nat×Bool):=match d.dst,d.op with
 |some a,.binOp g e h i _=>match KR ic.tt e,Gx f (c h),c i with
  |true,some b,.cv (.pointer none)=>bif fX ic.n ic.pin a then(match g with
   |.eql=>some (a,b)
   |.neq=>some (a,!b)
   |_=>none) else none
  |_,_,_=>none
 |_,_=>none
def HE (ic:fM) (f:Operand->ao) (d:Oper):Option (Nat×sI×Int):=match d.dst,d.op with
 |some c,.indexAddr e (.global h) g=>match ic.hW.find? (λa=>Nat.beq a.b h&&Nat.beq a.T e),f g with
  |some a,.val (.int _) i=>bif fX ic.n ic.pin c then some (c,a,i) else none
  |_,_=>none
 |_,_=>none
def i1 (ic:fM) {A:Type} (a:aQ) (d:Oper) (b:aQ->Option A):Option A:=
 match HE ic (aV a.g) d with
 |some (c,i,f)=>(aC i.xs f).bind λn=>b ⟨(c,.val (.ptr .bK (.int i.k)) (some n))::a.g,a.h⟩
 |none=>match G6 ic (aV a.g) a.h d with
 |some (c,j)=>b ⟨(c,.val .bool j)::a.g,a.h⟩
 |none=>match Gy ic (aV a.g) d with
 |some (c,f)=>m7 f (b ⟨(c,.val .bool true)::a.g,a.h⟩) (b ⟨(c,.val .bool false)::a.g,a.h⟩)
 |none=>match HD ic (aV a.g) d with
  |some (id,m::l)=>Fc ic id m l (aV a.g) a.h d λe=>b (e.app a)
  |_=>iV ic (aV a.g) a.h d λe=>b (e.app a)
def jP (ic:fM) {A:Type} (c:Array Oper):ad4->aQ->(aQ->Option A)->Option A
 |[],a,b=>b a
 |i::e,a,b=>match c[i]? with
  |none=>none
  |some f=>match f.guard with
   |none=>i1 ic a f λk=>jP ic c e k b
   |some (
    l,sg)=>match(c[l]?).bind (·.dst),f.dst with
    |some j,some d=>match gt a.g j with
     |.val .bool m=>bif fX ic.n ic.pin d then
      (match m==sg with
      |true=>i1 ic ⟨(j,.val .bool sg)::a.g,a.h⟩ f λk=>jP ic c e k b
      |false=>jP ic c e ⟨(d,.cv undef)::(j,.val .bool (!sg))::a.g,a.h⟩ b) else none
     |.cv (.tuple _)=>bif fX ic.n ic.pin d then jP ic c e ⟨(d,.cv undef)::a.g,a.h⟩ b else none
     |_=>none
    |_,_=>none
section
variable {E:eh} {C:dD} {ic:fM} {A:Type}
def fM.ae (E:eh) (C:dD) (ic:fM):Prop:=ic.tt=E.tt/\ic.n=C.n/\ic.pin=C.pin/\((∀b∈ic.DE,aE E b.2)/\sG C ic.Zk/\(∀a∈ic.aw,H9 E.P a)/\j2 E C.I0 C.w0/\ic.hW=E.glob)/\oe C ic.kg
theorem fX.ok (b:ic.ae E C) {d:Nat} (a:fX ic.n ic.pin d=true):C.ok d:=by obtain⟨_,c,e,_,_⟩:=b;rw[c,e] at a;simp only[fX,bp] at a;exact⟨e4 a.1,λf=>by grind [fG]⟩
def ff.same {d:adW} (k:∀b,gt X.g b=gt i.g b) (c:X.h=i.h) (j:ff C i d v):ff C X d v:=by obtain⟨e,l,f,a⟩:=j;exact⟨e,l,f,{a with tree:=by rw[c];exact a.tree,dis:=by rw[c];exact a.dis,tmp:=λb=>by rw[c,k];exact a.tmp b}⟩
def g6.same {f:Array Oper} {e:ad4} {a b:aQ} {c:aQ->Prop} (l:∀d,gt b.g d=gt a.g d) (m:b.h=a.h) (j:g6 E C f e b c):g6 E C f e a c:=
 λi n k=>j i n (k.same l m)
def bu.IM {a:List (Nat×List a5)}:(bu.mk (some (b,d)) f a e).app i=⟨(b,d)::kill f a i.g,e++del f i.h⟩:=by show aQ.mk ((b,d)::mm f a i.g) (e++p1 f i.h)=_;rw[rD,vI]
theorem JU (L:ic.ae E C) {l:Oper} {st:aQ} {o:bu->Option A} {s:A} (a:al ic (aV st.g) st.h l o=some s):dA E C l st (λv=>∃c,o c=some s/\v=c.app st):=by
 obtain⟨B,d3,d4,co,_⟩:=id L;unfold al at a;split at a
 ·rename_i i;split at a
  ·grind [Zz,Zy]
  ·grind [LJ]
  ·rename_i p b W Y e;rw[B] at a;exact LJ (.inr e) i a
  ·grind [R9]
  ·rename_i x H e;split at a
   case h_2=>cases a
   rename_i b W p ad al S;rw[B] at a;obtain rfl:x=#[b,W]:=(by grind);obtain rfl:H=#[p,ad]:=(by grind);grind [Ul]
  grind
 rename_i z i;cases U:fX ic.n ic.pin z with
 |false=>grind
 |true=>
 rw[U] at a;have j:=fX.ok L U;simp only[cond_true] at a;split at a
 ·rename_i d0 b m e;split at a
  case h_2=>cases a
  rename_i q K;have d1:∀y,(q=true->y=aV st.g b)->(q=false->y=aV st.g m)->o ⟨some (z,y),[],[],[]⟩=some s->dA E C l st (λv=>∃c,o c=some s/\v=c.app st):=by
   clear a;intro y a3 a4 u;refine dA.eval (an:=ic.an) i j ?_;rw[e];simp only[fl,Dc,K];refine⟨q,rfl,_,u,?_⟩;cases q
   ·rw[a4 rfl];rfl
   rw[a3 rfl];rfl
  split at a
  ·rename_i ds ed el Y d5 V;split at a
   case h_2=>cases a
   rename_i dl cs;cases jk cs;grind
  grind
 ·rename_i ek x _ e;split at a
  case h_2=>cases a
  rename_i J X c1;split at a
  ·cases a
  rename_i I bd;cases r:Nat.beq I.f J with
  |false=>grind
  |true=>
  rw[r] at a;obtain rfl:=eF r;simp only[cond_true,mj] at a;obtain⟨d,d2,a⟩:=dp.1 a;obtain⟨q,ci,a⟩:=dp.1 a;cases K:mb z ⟨[],st.h⟩ (x.toList.map (aV st.g)++X) (eZ I.ps d q) (hM I.rs (g2 I.ps q)) with
  |false=>grind
  |true=>
  rw[K] at a;obtain⟨d6,ce⟩:=Gb bd;obtain⟨bs,bB⟩:=co.1 _ ce;refine dA.call e c1 i j bs (bB d q ci) (by grind [Gc,zn]) L.2.2.2.2.1 L.2.2.2.1.2.2.2.1 ?_ K ⟨_,a,?_⟩
  ·grind [oT,HH]
  rw[bu.IM];rfl
 ·rename_i x H e;split at a
  case h_2=>cases a
  rename_i b m p N al S;cases r:Nat.beq p N with
  |false=>grind
  |true=>
  rw[r] at a;obtain rfl:=eF r;have ap:x=#[b,m]:=(by grind);have av:H=#[p,p]:=(by grind);grind [Qn]
 ·rename_i x H e;split at a
  case h_2=>cases a
  rename_i b m p N al S;have ap:x=#[b,m]:=(by grind);have av:H=#[p,N]:=(by grind);grind [dA.copy]
 ·rename_i b e;have O:FV (aV st.g b)=true->o ⟨some (z,aV st.g b),[],[],[]⟩=some s->dA E C l st (λv=>∃c,o c=some s/\v=c.app st):=λV u=>by
   refine dA.eval (an:=ic.an) i j ?_;rw[e];simp only[fl,V,cond_true];exact⟨_,u,rfl⟩
  have as:(oD ic.an st.h z (aV st.g b)).bind o=some s->dA E C l st (λv=>∃c,o c=some s/\v=c.app st):=λu=>(by obtain⟨c,bl,u⟩:=dp.1 u;exact dA.Qv e i j (Qw bl ⟨c,u,rfl⟩));split at a
  ·rename_i ds m t;exact O (by rw[t];rfl) (by grind)
  ·rename_i J X t;exact O (by rw[t];rfl) (by grind)
  ·rename_i id d8 t;rintro d w ⟨ab,c2,a0,D⟩ next am Q
   have M:=D.aV b;have R:(execOp d.eval l).run E.P w=.ok (.value (d.eval b)) w:=(by simp[execOp,e]);unfold Oper.wp;rw[R];show next (d.put l.dst (d.eval b)) w
   rw[i];refine Q _ _ _ ⟨_,a,rfl⟩ rfl ⟨_,_,_,D.put j ?_⟩;grind
  ·rename_i Y t;split at a
   ·exact O (by rw[t];rfl) (by grind)
   split at a
   ·rename_i T;simp only[bp] at T;obtain⟨m,cv,a⟩:=dp.1 a;rintro d w ⟨ab,c2,a0,D⟩ next am Q
    have M:=D.aV b;have R:(execOp d.eval l).run E.P w=.ok (.value (d.eval b)) w:=(by simp[execOp,e]);unfold Oper.wp;rw[R];show next (d.put l.dst (d.eval b)) w
    rw[i];refine Q _ _ _ ⟨_,a,rfl⟩ rfl ⟨_,_,_,D.put j ?_⟩;rw[t] at M;generalize d.eval b=dl at M;cases M;rw[<-oL.ok T.2];exact .val (oK cv)
   grind
  grind
 ·grind [QI]
 ·grind [Uv]
 ·grind [QL]
 ·grind [QP]
 split at a
 ·rename_i y k;refine dA.eval (an:=ic.an) i j ?_;rw[<-B];exact Fm (by rw[k];exact⟨_,a,rfl⟩)
 ·rename_i Z m J k;refine dA.eval (an:=ic.an) i j ?_;rw[<-B];obtain⟨G,F,a⟩:=dp.1 a;exact Fm (by rw[k];exact⟨G,F,_,a,rfl⟩)
 ·rename_i Z m d9 c k;cases r:Nat.beq c z with
  |false=>grind
  |true=>
  rw[r] at a;obtain rfl:=eF r;obtain⟨G,F,a⟩:=dp.1 a;refine dA.eval (an:=ic.an) i j ?_;rw[<-B];exact Fm (by rw[k];exact⟨G,F,_,a,rfl⟩)
 refine dA.eval (an:=ic.an) i j ?_;rw[B] at a;split at a
 ·rename_i y d7 k;rw[k];exact⟨_,a,rfl⟩
 ·rename_i Z em J k;rw[k];obtain⟨G,F,a⟩:=dp.1 a;exact⟨G,XJ F,_,a,rfl⟩
 grind
def dA.mono {P:aQ->Prop} (e:dA E C h i P) (j:∀a,P a->u a):dA E C h i u:=
 λc l f next b g=>e c l f next b (λa d m k=>g a d m (j a k))
theorem YK (b:kk g d=true):∃id,d.ids=[id]/\∃a∈g,a.1=id:=by
 have e:∀(id:Nat) (f:Nat×List a5->Bool),(g.any λa=>Nat.beq a.1 id&&f a)=true->∃a∈g,a.1=id:=(by intro id f k;obtain⟨a,h,i⟩:=ns.1 k;simp only[bp] at i;grind [Nat.eq_of_beq_eq_true]);cases d with
 |ref id c=>
  cases c with
  |nil=>
   obtain⟨a,h,j⟩:=ns.1 (show(g.any λa=>Nat.beq a.1 id)=true from b);exact⟨id,rfl,a,h,eF j⟩
  |cons n c=>exact⟨id,rfl,e id _ b⟩
 |addr id c=>exact⟨id,rfl,e id _ b⟩
 |view id c m l=>exact⟨id,rfl,e id _ b⟩
 |_=>cases b
theorem DO:d.ej (f++x)=(d.ej f||d.ej x):=by simp only[ao.ej];rw[n9];simp only[ns,fK];grind [fG,List.mem_append_left,List.mem_append_right]
theorem Jq:(ao.dv b L).ej f=L.any λa=>a.ej f:=by
 show(ao.mZ L).any _=_
 induction L with
 |nil=>rfl
 |cons a L c=>grind [ao.mZ,ao.ej]
theorem NO (b:d.ej x=false):iH (x++f) g d=iH f g d:=by
 cases d with
 |dv m p=>
  rw[Jq,uK] at b;rw[n9];simp only[iH,fd];constructor<;>intro i e h<;>have:=i e h<;>rw[DO,Bool.eq_false_iff.2 (b e h)] at*<;>simpa using this
 |app id q s r c=>
  have j:=HS b;have o:∀a∈c,du a (x++f)=du a f:=λa k=>(by have n:a∉x:=j a (fk _ k);rw[n9,fG,fG,eN];grind);have l:(c.all λa=>!(du a (x++f)))=c.all λa=>!(du a f):=(by grind);grind [iH]
 |_=>rfl
theorem TB {F S:ad4} {keep:List (Nat×List a5)} {a:ao}:dO (F++S) keep a=.dead\/(a.ej F=false/\dO (F++S) keep a=dO S keep a)\/(iH (F++S) keep a=true/\dO (F++S) keep a=a):=by grind [NO,DO,iH,dO]
theorem md.ok (b:md e f=true):∀id∈f,∃a,au e id=some a/\FI a.1=true:=by intro id c;have:=fd.1 b id c;grind
theorem JW (a0:ic.ae E C) {K:Oper} {N:bu->Option A} {W:A} (e:iV ic (aV i.g) i.h K N=some W):dA E C K i (λX=>∃b,N b=some W/\X=b.app i):=by
 unfold iV at e;split at e
 ·grind [JU]
 generalize k6 ic.qa (tz K) (aV i.g) (qA K.op)=c at e;cases R:md i.h c with
 |false=>grind
 |true=>
 rw[R] at e;simp only[cond_true] at e;rw[<-S1 c i] at e;have o:=JU (st:=rx c i) a0 e;intro j bB M next Y a4
 obtain⟨ci,d1,co,M⟩:=M;refine o j bB (M.freeze (md.ok R)) next Y (λd2 Z ce bl ap ad=>?_)
 obtain⟨b,T,rfl⟩:=bl;cases U:b.keep.all (λk=>!du k.1 c) with
 |false=>grind
 |true=>
 rw[U] at T;have U:∀k∈b.keep,k.1∉c:=λk q a3=>(by grind [fG,List.all_eq_true]);refine a4 _ Z ce ⟨_,T,rfl⟩ ap (ad.Le ?_ ?_)
 ·intro x;have t:∀j:ao,dO (c++b.S) b.keep j=.dead\/dO (c++b.S) b.keep j=dO b.S b.keep (fy i.h c j):=by
   intro j;rcases TB (F:=c) (S:=b.S) (keep:=b.keep) (a:=j) with e|⟨o,w⟩|⟨o,w⟩
   ·grind
   ·right;rw[w];rcases lI i.h c j with⟨id,p,rfl,bs,_⟩|⟨_,n⟩|⟨n,_⟩
    ·grind [fG,ao.ej,ao.ids]
    ·grind
    grind
   have bd:∀(id:Nat),(∃l∈b.keep,l.1=id)->du id c=false:=λid ⟨l,I,b⟩=>(by grind);have G:iH (c++b.S) b.keep j=iH b.S b.keep j->∀(id:Nat),j.ids=[id]->(∃l∈b.keep,l.1=id)->dO (c++b.S) b.keep j=.dead\/dO (c++b.S) b.keep j=dO b.S b.keep (fy i.h c j):=by
    intro c1 id dl I;have V:j.ej c=false:=(by grind [ao.ej]);right;rcases lI i.h c j with⟨k,p,rfl,bs,_⟩|⟨_,n⟩|⟨n,_⟩
    ·grind [fG,ao.ej,ao.ids]
    ·grind
    grind [dO,iH]
   have H:∀(id:Nat) (O:Nat×List a5->Bool),(b.keep.any λl=>Nat.beq l.1 id&&O l)=true->∃l∈b.keep,l.1=id:=(by intro id O av;obtain⟨l,I,w⟩:=ns.1 av;simp only[bp] at w;grind [Nat.eq_of_beq_eq_true]);cases j with
   |ref id f=>
    cases f with
    |nil=>
     obtain⟨l,I,L⟩:=ns.1 (show(b.keep.any λl=>Nat.beq l.1 id)=true from o);exact G rfl id rfl ⟨l,I,eF L⟩
    |cons X f=>exact G rfl id rfl (H id _ o)
   |addr id f=>exact G rfl id rfl (H id _ o)
   |view id f y q=>exact G rfl id rfl (H id _ o)
   |dv s m=>
    have am:=fd.1 o;have V:(ao.dv s m).ej c=false:=(by rw[Jq,uK];grind [YK,DO,id,ao.ej,al]);right;rcases lI i.h c (.dv s m) with⟨k,p,ax,_⟩|⟨_,n⟩|⟨n,_⟩
    ·cases ax
    ·grind
    rw[n,w];unfold dO;have cs:iH b.S b.keep (.dv s m)=true:=fd.2 λab an=>(by have L:=am ab an;rw[DO,Bool.not_or,fK,bp] at L;grind);grind
   |app id f u v r=>
    have Q:((r.all λk=>!(du k (c++b.S)))&&b.keep.any λl=>Nat.beq l.1 id&&jJ l.2 f)=true:=o;rw[bp] at Q;have c2:=bd id (H id _ Q.2);have V:(ao.app id f u v r).ej c=false:=by
     unfold ao.ej;rw[uK];intro k q a3;rcases dx.1 (show k∈id::r from q) with rfl|q
     ·grind
     grind [List.all_eq_true,fG,List.mem_append_left]
    right;rcases lI i.h c (.app id f u v r) with⟨k,p,ax,_⟩|⟨_,n⟩|⟨n,_⟩
    ·cases ax
    ·grind
    grind [NO,dO]
   |_=>cases o
  have ds:∀j:ao,wE (eu (c++b.S) b.keep j) (eu b.S b.keep (hn i.h c j)):=by
   intro j;cases j with
   |dM m=>
    refine .inr (.inr ⟨_,_,rfl,rfl,ac,λk l d4 o w=>?_⟩);grind
   |ref id f=>
    have n:=t (.ref id f);have al:eu b.S b.keep (hn i.h c (.ref id f))=dO b.S b.keep (fy i.h c (.ref id f)):=by show eu b.S b.keep (fy i.h c (.ref id f))=_;rcases lI i.h c (.ref id f) with⟨k,p,_,_,_,e⟩|⟨e,_⟩|⟨e,_⟩<;>rw[e]<;>first|rfl|grind [S3]
    rw[al];exact n.imp (λe=>e) .inl
   |dead=>exact(t .dead).imp (λe=>e) .inl
   |val u l=>exact .inr (.inl (by
    simp[dO,fy,hn,eu,ao.ej,ao.ids]))
   |cv d3=>exact .inr (.inl (by
    simp[dO,fy,hn,eu,ao.ej,ao.ids]))
   |addr id f=>
    have al:eu b.S b.keep (hn i.h c (.addr id f))=dO b.S b.keep (fy i.h c (.addr id f)):=by show eu b.S b.keep (fy i.h c (.addr id f))=_;rcases lI i.h c (.addr id f) with⟨k,p,_,_,_,e⟩|⟨e,_⟩|⟨e,_⟩<;>rw[e]<;>first|rfl|grind
    rw[al];exact(t _).imp (λe=>e) .inl
   |view id f y q=>
    have al:eu b.S b.keep (hn i.h c (.view id f y q))=dO b.S b.keep (fy i.h c (.view id f y q)):=by show eu b.S b.keep (fy i.h c (.view id f y q))=_;rcases lI i.h c (.view id f y q) with⟨k,p,_,_,_,e⟩|⟨e,_⟩|⟨e,_⟩<;>rw[e]<;>first|rfl|grind
    rw[al];exact(t _).imp (λe=>e) .inl
   |jL id f J=>
    have al:eu b.S b.keep (hn i.h c (.jL id f J))=dO b.S b.keep (fy i.h c (.jL id f J)):=by show eu b.S b.keep (fy i.h c (.jL id f J))=_;rcases lI i.h c (.jL id f J) with⟨k,p,_,_,_,e⟩|⟨e,_⟩|⟨e,_⟩<;>rw[e]<;>first|rfl|grind
    rw[al];exact(t _).imp (λe=>e) .inl
   |app id f u v r=>
    have al:eu b.S b.keep (hn i.h c (.app id f u v r))=dO b.S b.keep (fy i.h c (.app id f u v r)):=by show eu b.S b.keep (fy i.h c (.app id f u v r))=_;rcases lI i.h c (.app id f u v r) with⟨k,p,_,_,_,e⟩|⟨e,_⟩|⟨e,_⟩<;>rw[e]<;>first|rfl|grind
    rw[al];exact(t _).imp (λe=>e) .inl
   |agg m=>
    have al:eu b.S b.keep (hn i.h c (.agg m))=dO b.S b.keep (fy i.h c (.agg m)):=by show eu b.S b.keep (fy i.h c (.agg m))=_;rcases lI i.h c (.agg m) with⟨k,p,_,_,_,e⟩|⟨e,_⟩|⟨e,_⟩<;>rw[e]<;>first|rfl|grind
    rw[al];exact(t _).imp (λe=>e) .inl
   |dv s m=>
    have al:eu b.S b.keep (hn i.h c (.dv s m))=dO b.S b.keep (fy i.h c (.dv s m)):=by show eu b.S b.keep (fy i.h c (.dv s m))=_;rcases lI i.h c (.dv s m) with⟨k,p,_,_,_,e⟩|⟨e,_⟩|⟨e,_⟩<;>rw[e]<;>first|rfl|grind
    rw[al];exact(t _).imp (λe=>e) .inl
  show wE (gt (bu.app ⟨b.d,c++b.S,b.keep,b.put⟩ i).g x) (gt (b.app (rx c i)).g x);obtain⟨D,z,B,d0⟩:=b;cases D with
  |none=>
   show wE (gt (mm (c++z) B i.g) x) (gt (mm z B (rx c i).g) x);grind [rD,qc,Cn]
  |some n=>
   obtain⟨D,P⟩:=n;show wE (gt ((D,P)::mm (c++z) B i.g) x) (gt ((D,P)::mm z B (rx c i).g) x);rw[hJ,hJ];split
   ·exact .inr (.inl rfl)
   grind [rD,qc,Cn]
 intro id;show au (b.put++p1 (c++b.S) i.h) id=au (b.put++p1 b.S (del c i.h)) id;grind [vI,jo,lK]
theorem RS (l:ic.ae E C) {o:Oper} {id:Nat} (av:HD ic (aV i.g) o=some (id,T::j)) {p:bu->Option A} {x:A} (a:Fc ic id T j (aV i.g) i.h o p=some x):dA E C o i (λT=>∃q,p q=some x/\T=q.app i):=by
 have Q:=λc=>fX.ok l (d:=c);have L:=l.2.2.2.2.1;have M:=l.2.2.2.1.2.2.2.1;obtain⟨a0,_,_,V,_⟩:=l;unfold Fc at a;split at a
 ·cases a
 rename_i c H;cases v:fX ic.n ic.pin c with
 |false=>grind
 |true=>
 rw[v] at a;have I:=Q c v;simp only[cond_true] at a;split at a
 case h_2=>cases a
 rename_i an y bs O;split at a
 case h_2=>cases a
 rename_i D w Y;split at a
 ·cases a
 rename_i b F;cases t:Nat.beq b.f D with
 |false=>grind
 |true=>
 rw[t] at a;obtain rfl:=eF t;simp only[cond_true] at a;split at a
 ·cases a
 rename_i bd S;split at a
 ·cases a
 rename_i am a3;split at a
 ·cases a
 rename_i ab W;split at a
 ·cases a
 rename_i k ap;obtain⟨e,P,a⟩:=dp.1 a;have R:sa (y.toList.map (aV i.g)++w) (b.ps.map m0)=some (id,T::j):=(by grind [HD]);generalize G:ll id (y.toList.map (aV i.g)++w) (b.ps.map m0)=m at*;cases u:mb c ⟨[],(id,⟨am,ab⟩)::del [id] i.h⟩ m (eZ b.ps k e) (hM b.rs (g2 b.ps e)) with
 |false=>grind
 |true=>
 rw[u] at a;cases r:du id (eM m (eZ b.ps k e)) with
 |false=>grind
 |true=>
 rw[r] at a;cases s:du id (lc m (eZ b.ps k e)) with
 |false=>grind
 |true=>
 rw[s] at a;simp only[Bool.and_self,cond_true] at a;split at a
 ·cases a
 rename_i bl U;split at a
 ·cases a
 rename_i B X;obtain⟨ad,Z,a⟩:=dp.1 a;obtain⟨a4,N⟩:=Gb F;obtain⟨J,K⟩:=V.1 _ N;refine dA.sub O Y H I J (K k e P) (by grind [Gc,zn]) L M S (ho W) R G.symm ?_ u (fG.1 r) (fG.1 s) (y':=B) (z:=ad) ?_ (lR Z) ⟨_,a,?_⟩
 ·grind [oT,HH]
 ·rw[U];exact congrArg some (jk X)
 rw[bu.IM]
def Y0 (b:World) (e:Nat) (a:Option Addr) (g d:Nat) (f:s.underlying c=some (.slice q)):(Op.equalIn (e+1) c (.slice a g d) (.slice none 0 0)).run s b=.ok a.isNone b:=by cases a<;>simp[Op.equalIn,run_underlying f]
theorem YY (b:World) (a:Option Addr) (e d:Nat) (f:s.underlying c=some (.slice q)):(binOp .eql c (.slice a e d) (.slice none 0 0)).run s b=.ok (.bool a.isNone) b:=by simp_all [Y0,Op.equal,Op.maxDepth,binOp]
theorem UR (s:ic.ae E C) {x:Oper} (a:Gy ic (aV i.g) x=some (b,l)):dA E C x i (λR=>∃c:Bool,R=⟨(b,.val .bool c)::i.g,i.h⟩/\(c=true->l=0)):=by
 unfold Gy at a;split at a
 case h_2=>cases a
 rename_i D A j k am H J;split at a
 case h_2=>cases a
 rename_i ad Z z y r F G;cases t:fX ic.n ic.pin D with
 |false=>grind
 |true=>
 rw[t] at a;simp only[cond_true,bS,gm] at a;obtain⟨rfl,rfl⟩:=a;rw[s.1] at r;obtain⟨_,T,_,K,_⟩:=fh.ok r;rintro e f ⟨S,ab,V,m⟩ next U Y
 have o:=m.aV j;have p:=m.aV k;rw[F] at o;rw[G] at p;obtain⟨d,u⟩:∃d,d=e.eval j:=⟨_,rfl⟩;obtain⟨fc,w⟩:∃d,d=e.eval k:=⟨_,rfl⟩;rw[<-u] at o;rw[<-w] at p;cases o with|val O=>cases p with|cv _=>
 obtain⟨_,c,q,rfl,W,X,_⟩:=O;have L:e.eval j=.slice c (List.length (α:=z.den) y) q:=u.symm;have M:e.eval k=.slice none 0 0:=w.symm;have I:∀f,(eqGuard .eql A j k (.slice c (List.length (α:=z.den) y) q) (.slice none 0 0)).run E.P f=.ok () f:=λf=>(by unfold eqGuard;simp);refine Yields.wp (Q:=λB N=>B=.val .bool c.isNone/\N=[]) m (.pure (v:=.bool _) (by simp only[execOp,J,L,M,Sem.run_bind,I,Result.andThen_ok,YY _ _ _ _ K];rfl) (.bool _) ⟨rfl,rfl⟩) H (fX.ok s t) ?_;grind
def ZN {e:IntKind} (g:E.P.underlying q=some (.array W c)) (f:dP E.P (.int e) c) {a:Act} (j:h.op=.indexAddr q (.global l) m) {o:IntKind} (i:a.eval m=.int o b) (p:b<W):(execOp a.eval h).run E.P v=.ok (.value (.pointer (some ⟨l,0+b*1,none⟩))) v:=by have d:=f.sizeOf v;have n:a.eval (.global l)=.pointer (some ⟨l,0,none⟩):=rfl;have:(0:Int)<=(b:Int)/\(b:Int)<(W:Int):=⟨U,U⟩;have k:(aj.int e).size=1:=rfl;rw[k] at d;simp[execOp,j,n,i,Instr.indexAt,Instr.sureAddr,asIntOf,run_underlying g,this,d,Addr.add_lit];omega
theorem ZJ (d:ic.ae E C) {A:Oper} {r:sI} {z e:Int} (a:HE ic (aV i.g) A=some (l,r,z)) (V:aC r.xs z=some e):dA E C A i (λZ=>Z=⟨(l,.val (.ptr .bK (.int r.k)) (some e))::i.g,i.h⟩):=by
 unfold HE at a;split at a
 case h_2=>cases a
 rename_i F am bd p R S;split at a
 case h_2=>cases a
 rename_i c y q v M;cases w:fX ic.n ic.pin F with
 |false=>grind
 |true=>
 rw[w] at a;simp only[cond_true,bS,gm] at a;obtain⟨rfl,rfl,rfl⟩:=a;have j:=List.find?_some v;have o:=zW v;rw[bp] at j;obtain rfl:=eF j.1;obtain rfl:=eF j.2;rw[d.2.2.2.1.2.2.2.2] at o;obtain⟨ad,P,O⟩:=E.gok c o;rintro s ci ⟨ab,bB,a3,f⟩ next an a4
 have m:=f.aV p;rw[M] at m;generalize T:s.eval p=ce at m;cases m with|val Y=>
 obtain⟨_,rfl⟩:=Y;obtain⟨al,K,L⟩:=Kz V;obtain⟨_,ap,a0,u,ax,bs,B⟩:=f.glob d.2.2.2.2.1 d.2.2.2.1.2.2.2.1 c o;simp only[gu,Value.slice.injEq,and_true] at u;obtain⟨rfl,_⟩:=u;rcases B with B|⟨av,bl,t,N,X⟩
 ·grind
 simp only[bS,Addr.mk.injEq,and_true] at t;obtain⟨rfl,rfl⟩:=t;obtain⟨J,G,H,I⟩:=X _ _ L;have U:s.eval p=.int y (q.toNat:Nat):=(by rw[T];show Value.int y q=_;grind);refine Yields.wp (Q:=λD W=>D=.val (.ptr .bK (.int c.k)) (some e)/\W=[]) f (.pure (ZN P O S U K) (.val (τ:=.ptr .bK (.int c.k)) (x:=some e) (cs:=[.pointer (some ⟨c.b,0+q.toNat*1,none⟩)]) ⟨rfl,c.b,_,J,rfl,N,G,H,I⟩) ⟨rfl,rfl⟩) R (fX.ok d w) ?_;grind
def NV (b:World) (d:Nat) (a:Option Addr) (e:s.underlying c=some (.pointer q)):(Op.equalIn (d+1) c (.pointer a) (.pointer none)).run s b=.ok a.isNone b:=by cases a<;>simp[Op.equalIn,run_underlying e]
theorem YZ (b:World) (a:Option Addr) (d:s.underlying c=some (.pointer q)):(binOp .eql c (.pointer a) (.pointer none)).run s b=.ok (.bool a.isNone) b:=by simp_all [NV,Op.equal,Op.maxDepth,binOp]
theorem Y1 (b:World) (a:Option Addr) (d:s.underlying c=some (.pointer q)):(binOp .neq c (.pointer a) (.pointer none)).run s b=.ok (.bool (!a.isNone)) b:=by simp_all [NV,Op.equal,Op.maxDepth,binOp]
theorem UN {e:Act} {s:Nat->ad4} (l:bC C i e.tmps v B z s) (a:Gx i.h (aV i.g m)=some I):∃k:Option Addr,e.eval m=.pointer k/\k.isNone=I:=by
 have b:=l.aV m;obtain⟨v1,c⟩:∃j,j=e.eval m:=⟨_,rfl⟩;rw[<-c] at b;unfold Gx at a;split at a
 ·rename_i D x j f;rw[f] at b;cases b with|val d=>
  obtain⟨_,d⟩:=d;cases a;cases j with
  |none=>subst d;exact⟨none,c.symm,rfl⟩
  |some G=>obtain⟨q,u,r,rfl,_⟩:=d;exact⟨some ⟨q,u,none⟩,c.symm,rfl⟩
 ·rename_i id E f;split at a
  case h_2=>cases a
  rename_i x o;split at a
  case h_2=>cases a
  rename_i F t;cases a;rw[f] at b;cases b with|ref p n=>
  rw[o] at p;cases p;have:=n.ty;rw[t] at this;cases this;obtain⟨I,w,r,rfl,y,A⟩:=nT (l.tree id _ o).1 n;exact⟨some ⟨I,w,none⟩,c.symm,rfl⟩
 grind
theorem XY (o:ic.ae E C) {D:Oper} (a:G6 ic (aV i.g) i.h D=some (b,I)):dA E C D i (λO=>O=⟨(b,.val .bool I)::i.g,i.h⟩):=by
 unfold G6 at a;split at a
 case h_2=>cases a
 rename_i J d k R f ab t x;split at a
 case h_2=>cases a
 rename_i H m K L;cases p:fX ic.n ic.pin J with
 |false=>grind
 |true=>
 rw[p] at a;simp only[cond_true] at a;have M:∃j,E.P.underlying k=some (.pointer j):=by
  rw[o.1] at m;unfold KR at m;split at m
  ·rename_i X Z N;obtain⟨_,j,_,_,_,_,V,_⟩:=E.ok k _ N;grind
  grind
 obtain⟨j,y⟩:=M;rintro s e ⟨S,Y,U,c⟩ next T W
 have q:=c.aV f;rw[L] at q;obtain⟨fc,A⟩:∃F,F=s.eval f:=⟨_,rfl⟩;rw[<-A] at q;cases q with|cv _=>
 obtain⟨G,z,w⟩:=UN c K;have B:s.eval f=.pointer none:=A.symm;have u:∀d e,(eqGuard d k R f (.pointer G) (.pointer none)).run E.P e=.ok () e:=λd e=>(by unfold eqGuard;cases d<;>simp);split at a
 ·cases a;refine Yields.wp (Q:=λl r=>l=.val .bool I/\r=[]) c (.pure (v:=.bool _) (by simp only[execOp,x,z,B,Sem.run_bind,u,Result.andThen_ok,YZ _ _ y,w];rfl) (.bool _) ⟨rfl,rfl⟩) t (fX.ok o p) ?_;grind
 ·cases a;refine Yields.wp (Q:=λl r=>l=.val .bool (!H)/\r=[]) c (.pure (v:=.bool _) (by simp only[execOp,x,z,B,Sem.run_bind,u,Result.andThen_ok,Y1 _ _ y,w];rfl) (.bool _) ⟨rfl,rfl⟩) t (fX.ok o p) ?_;grind
 grind
theorem KJ (e:ic.ae E C) {l:Array Oper} {m:aQ->Option A} {p:A} (g:l[b]?=some h) (k:ju l i h true) (a:i1 ic i h m=some p) (x:∀c,m c=some p->g6 E C l f c u):g6 E C l (b::f) i u:=
by
 unfold i1 at a;split at a
 ·rename_i o B t j;obtain⟨D,s,a⟩:=dp.1 a;refine g6.op g k ((ZJ e j s).mono (λc d=>?_));grind
 split at a
 ·rename_i o n j;refine g6.op g k ((XY e j).mono (λc d=>?_));grind
 split at a
 ·rename_i o t j;obtain⟨v,w⟩:=UQ a;refine g6.op g k ((UR e j).mono (λc d=>?_));obtain⟨n,rfl,y⟩:=d;cases n with
  |false=>grind
  |true=>grind
 split at a
 ·rename_i id c z d;exact g6.op g k ((RS e d a).mono (λc ⟨q,r,d⟩=>by grind))
 exact g6.op g k ((JW e a).mono (λc ⟨q,r,d⟩=>by grind))
theorem yA {l2:ad4} (d:ic.ae E C) {q:Array Oper} {s:aQ->Option A} {y:A} {t:aQ->Prop} (f:∀k,s k=some y->g6 E C q l2 k t):∀{p:ad4} {b:aQ},jP ic q p b s=some y->g6 E C q (p++l2) b t
 |[],b,a=>f _ a
 |i::p,b,a=>by
  simp only[jP] at a;split at a
  ·cases a
  rename_i H j;split at a
  ·rename_i z;exact KJ d j (by grind [ju]) a (λk c=>yA d f c)
  rename_i G l z;split at a
  case h_2=>cases a
  rename_i v u D x;split at a
  case h_3=>cases a
  case h_2=>
   rename_i I B;cases c:fX ic.n ic.pin u with
   |false=>grind
   |true=>
   rw[c] at a;have o:=fX.ok d c;refine g6.skip j x o ?_ (yA d f a);grind [ju]
  rename_i m B;cases c:fX ic.n ic.pin u with
  |false=>grind
  |true=>
  rw[c] at a;have o:=fX.ok d c;simp only[cond_true] at a;split at a
  ·rename_i w;obtain rfl:m=l:=(by grind);have r:∀e,gt (⟨(v,.val .bool m)::b.g,b.h⟩:aQ).g e=gt b.g e:=λe=>by
    grind [hJ]
   refine g6.same r rfl (KJ d j ?_ a (λk c=>yA d f c));grind [ju]
  rename_i w;have F:m=!l:=by cases m<;>cases l<;>first|rfl|cases w
  have r:∀e,gt (⟨(v,.val .bool (!l))::b.g,b.h⟩:aQ).g e=gt b.g e:=λe=>(by grind [hJ]);refine g6.same r rfl (g6.skip j x o ?_ (yA d f a));grind [ju]
theorem Tn (h:ic.ae E C) {c:Array Oper} {b:aQ->Option A} {d:A} (g:∀a,b a=some d->u a) (e:jP ic c f i b=some d):g6 E C c f i u:=by have:=yA (l2:=[]) h (λa j=>g6.nil (g a j)) e;grind
end
end
structure jh (s t:aQ):Prop where
 g:∀k,gt s.g k=gt t.g k
 h:∀id,au s.h id=au t.h id
def jh.refl (a:aQ):jh a a:=⟨λ_=>rfl,λ_=>rfl⟩
def jh.symm {c d:aQ} (b:jh c d):jh d c:=⟨λa=>(b.g a).symm,λa=>(b.h a).symm⟩
def jh.trans {d e f:aQ} (b:jh d e) (c:jh e f):jh d f:=⟨λa=>(b.g a).trans (c.g a),λa=>(b.h a).trans (c.h a)⟩
def bu.sL (a:bu) (e:aQ) (b:Nat):gt (a.app e).g b=match a.d with
 |some (c,f)=>if c=b then f else eu a.S a.keep (gt e.g b)
 |none=>eu a.S a.keep (gt e.g b):=by
 obtain⟨c,h,i,k⟩:=a;cases c with
 |none=>
  show gt (mm h i e.g) b=_;rw[rD,qc]
 |some j=>
  obtain⟨c,f⟩:=j;show gt ((c,f)::mm h i e.g) b=_;rw[hJ,rD,qc]
theorem bu.qU (a:bu) (b:aQ) (id:Nat):au (a.app b).h id=(au a.put id).or (if id∈a.S then none else au b.h id):=by show au (a.put++p1 a.S b.h) id=_;rw[vI,jo,lK]
def jh.app {c t:aQ} (b:jh c t) (a:bu):jh (a.app c) (a.app t):=
 ⟨λd=>by rw[bu.sL,bu.sL,b.g],λd=>by rw[bu.qU,bu.qU,b.h]⟩
def ff.seq {a:dD} {c:adW} (b:jh i X) (d:ff a i c v):ff a X c v:=d.less (λe=>.inr (b.g e).symm) (λid=>(b.h id).symm)
def B6:Option (Nat×ao)->ad0->Bool
 |some b,some a=>Nat.beq b.1 a
 |none,none=>true
 |_,_=>false
def rT:ao->Bool
 |.dead=>false
 |_=>true
def n4 (b c:ad4):Bool:=b.all λa=>du a c
theorem n4.ok (b:n4 f x=true):∀a∈f,a∈x:=λa c=>fG.1 (fd.1 b a c)
def n3 (a:ad4):ao->Bool
 |.ref id []=>du (id+500000) a
 |_=>false
def vQ:Op->Bool
 |.move _=>true
 |_=>false
def Co:Nat->List a5->Option (Nat×List a5)
 |k,.snd::a=>Co (k+1) a
 |k,.fst::a=>some (k,a)
 |_,_=>none
def yu:List a5->Option (Nat×List a5)
 |.deref::.unst::a=>Co 0 a
 |_=>none
def vL (q:List a5):ad0:=match q with
 |[]=>some 1
 |q=>match yu q with
  |some (a,[])=>some (2*a+2)
  |some (a,_::_)=>some (2*a+3)
  |none=>none
def pO:ao->Option c7
 |.ref id a=>match vL a with
  |some b=>some (id,b)
  |none=>none
 |.addr id a=>match vL a with
  |some b=>some (id,b)
  |none=>none
 |.app id a _ _ d=>match du id d,yu a with
  |false,some (c,_)=>some (id,2*c+3)
  |_,_=>none
 |_=>none
def rF (b:ad4) (a:ao):Bool:=match pO a with
 |some (id,d)=>Nat.blt id 500000&&(du (id+1000000*d) b&&a.ids.all λc=>Nat.beq c id||du c b)
 |none=>false
def Db (c:List a5) (a:Nat):Bool:=match yu c with
 |some (b,d)=>Nat.beq a 1||(Nat.ble 2 a&&(!(Nat.beq (a/2) (b+1))||(Nat.beq (a %2) 0&&nO d)))
 |none=>false
def qT (a:Operand->ao) (b:Oper):Option (Nat×List a5):=match b.op with
 |.call {callee:=.builtin .append,args:=xs,argTypes:=_}=>match xs.toList with
  |[x,_]=>match a x with
   |.ref id (d::c)=>some (id,d::c)
   |_=>none
  |_=>none
 |_=>none
def GZ (c:ad4) (b:Operand->ao) (d:Oper):Bool:=c.all λa=>Nat.blt a 1000000||(match qT b d with
 |some (id,e)=>Nat.beq (a %1000000) (id+500000)&&(Nat.blt id 500000&&Db e (a/1000000))
 |none=>false)
def TG (a:ad4) (c:List (Nat×List a5)) (b:ad4):Bool:=b.all λid=>Nat.blt id 500000&&((du id a&&(du (id+500000) a||kk c (.ref id [])))||du (id+1500000) a)
def Aj:ao->Bool
 |.dM b=>b.all rT
 |a=>rT a
def m8 (op:Op) (b:ad4) (a:ao):Bool:=match op with
 |.extract _ d=>match a with
  |.dM e=>match e[d]? with
   |some c=>rT c&&(n4 c.ids b||n3 b c)
   |none=>false
  |_=>false
 |op=>Aj a&&(n4 a.ids b||((vQ op&&n3 b a)||rF b a))
def p8 (c e:ad4) (g:Operand->ao) (f:Oper) (b:bu):Bool:=
 B6 b.d f.dst&&(f.op.operands.toList.all λh=>m8 f.op c (g h))&&TG e b.keep b.S&&(b.put.all λa=>Nat.blt a.1 500000&&(du a.1 e||du (a.1+1500000) e))&&((match b.d with|some a=>n4 a.2.ids c||(n3 c a.2||rF c a.2)|none=>true)&&GZ e g f)
def g0 {e:Type} (b:Bool) (d:Option a) (c:a->Option e):(bif b then d else none).bind c=bif b then d.bind c else none:=by cases b<;>rfl
def Zw (tt:List (TypeId×aj)) (d:List (Nat×aH)) (c:TypeId) (f e:ao) (b:bu->Option a):qy tt d c f e b=(qy tt d c f e some).bind b:=by
 unfold qy;split
 ·rfl
 split
 case h_2=>rfl
 split
 ·rfl
 rw[g0];congr 1;split
 ·split
  case h_2=>rfl
  cases Nat.beq _ _
  ·simp only[cond_false,iC,aG]
  rfl
 ·split
  case h_2=>rfl
  rw[g0];simp only[iC,aG]
 split
 ·simp only[iC,aG]
 rfl
def Gs (tt:List (TypeId×aj)) (d:List (Nat×aH)) (c:TypeId) (g e f:ao) (b:bu->Option a):m6 tt d c g e f b=(m6 tt d c g e f some).bind b:=by
 unfold m6;split
 case h_2=>rfl
 split
 case h_2=>rfl
 split
 case h_2=>rfl
 split
 case h_2=>rfl
 rw[g0];congr 1;split
 ·simp only[iC,aG]
 rfl
def Us (tt:List (TypeId×aj)) (e:List (Nat×aH)) (d:Nat) (c:TypeId) (g f:ao) (b:bu->Option a):qk tt e d c g f b=(qk tt e d c g f some).bind b:=by
 unfold qk;split
 case h_2=>rfl
 split
 case h_2=>rfl
 split
 case h_2=>rfl
 split
 case h_2=>rfl
 split
 case h_2=>rfl
 rw[g0];simp only[iC,aG]
def R7 (tt:List (TypeId×aj)) (d:List (Nat×aH)) (c:TypeId) (g e f:ao) (b:bu->Option a):p5 tt d c g e f b=(p5 tt d c g e f some).bind b:=by
 unfold p5;split
 case h_2=>rfl
 rw[g0,Gs]
def Uj (tt:List (TypeId×aj)) (d:List (Nat×aH)) (c:TypeId) (f e:ao) (b:bu->Option a):qj tt d c f e b=(qj tt d c f e some).bind b:=by
 unfold qj;split
 case h_2=>rfl
 split
 case h_2=>rfl
 split
 case h_2=>rfl
 split
 case h_2=>rfl
 rw[g0];simp only[iC,aG]
def Qi (tt:List (TypeId×aj)) (d:List (Nat×aj)) (f:List (Nat×aH)) (e:Nat) (c:TypeId) (g h:ao) (b:bu->Option a):nD tt d f e c g h b=(nD tt d f e c g h some).bind b:=by
 unfold nD;split
 ·rfl
 split
 ·split
  case h_2=>rfl
  rw[g0];congr 1;split
  ·simp only[iC,aG]
  split
  case h_2=>rfl
  split
  case h_2=>rfl
  split
  case h_2=>rfl
  cases Nat.beq _ _
  ·simp only[cond_false,iC,aG]
  rfl
 ·split
  case h_2=>rfl
  split
  case h_2=>rfl
  rw[g0];simp only[iC,aG]
 ·split
  case h_2=>rfl
  rw[g0];simp only[iC,aG]
 ·split
  case h_2=>rfl
  rw[g0];simp only[iC,aG]
 rfl
def Ql (tt:List (TypeId×aj)) (d:List (Nat×aj)) (f:List (Nat×aH)) (e:Nat) (c:TypeId) (g h:ao) (b:bu->Option a):mQ tt d f e c g h b=(mQ tt d f e c g h some).bind b:=by
 unfold mQ;split
 ·unfold w7;split
  case h_2=>rfl
  split
  case h_2=>rfl
  split
  case h_2=>rfl
  rw[g0];simp only[iC,aG]
 exact Qi _ _ _ _ _ _ _ b
def Rz (tt:List (TypeId×aj)) (e:List (Nat×aH)) (d:Nat) (c:TypeId) (f g:ao) (b:bu->Option a):pP tt e d c f g b=(pP tt e d c f g some).bind b:=by
 unfold pP;split
 ·rfl
 split
 ·split
  case h_2=>rfl
  rw[g0];simp only[iC,aG]
 ·split
  case h_2=>rfl
  rw[g0];simp only[iC,aG]
 rfl
def QH (tt:List (TypeId×aj)) (d:List (Nat×aj)) (g:List (Nat×aH)) (f:Operand->ao) (e:Nat) (c:TypeId) (h:List (Nat×Operand)) (b:bu->Option a):qY tt d g f e c h b=(qY tt d g f e c h some).bind b:=by
 unfold qY;split
 ·rfl
 split
 ·rw[g0];congr 1;split
  ·rw[g0];rfl
  rfl
 rw[g0];congr 1;split
 ·rfl
 split
 ·rw[g0];rfl
 rfl
def QK (tt:List (TypeId×aj)) (d:List (Nat×aj)) (f:List (Nat×aH)) (e:Nat) (c:TypeId) (g:ao) (b:bu->Option a):sR tt d f e c g b=(sR tt d f e c g some).bind b:=by
 unfold sR;split
 ·split
  ·rw[g0];congr 1;split<;>rfl
  ·split
   ·rw[g0];rfl
   rfl
  rfl
 rfl
def QO (tt:List (TypeId×aj)) (d:List (Nat×aj)) (g:List (Nat×aH)) (f:Operand->ao) (e:Nat) (c:TypeId) (h:Nat) (i:List (Nat×Operand)) (b:bu->Option a):q0 tt d g f e c h i b=(q0 tt d g f e c h i some).bind b:=by
 unfold q0;split
 ·simp only;rw[g0];congr 1;split
  ·rfl
  split
  ·rw[g0];rfl
  rfl
 rfl
def yk {e:fM} (c:Operand->ao) (d:List (Nat×aH)) (f:Oper) (b:bu->Option a):al e c d f b=(al e c d f some).bind b:=by
 unfold al;split
 ·split
  ·exact Zw _ _ _ _ _ b
  ·exact Gs _ _ _ _ _ _ b
  ·exact Gs _ _ _ _ _ _ b
  ·exact R7 _ _ _ _ _ _ b
  ·split
   case h_2=>rfl
   exact Uj _ _ _ _ _ b
  rfl
 rw[g0];congr 1;split
 ·split
  case h_2=>rfl
  split
  ·split<;>rfl
  split<;>rfl
 ·split
  case h_2=>rfl
  split
  ·rfl
  rw[g0];congr 1;simp only[mj,iC,g0,aG]
 ·split
  case h_2=>rfl
  rw[g0];congr 1;exact Ql _ _ _ _ _ _ _ b
 ·split
  case h_2=>rfl
  exact Rz _ _ _ _ _ _ b
 ·split
  ·rfl
  ·rfl
  ·rfl
  ·split
   ·rfl
   split
   ·simp only[iC,aG]
   simp only[iC,aG]
  simp only[iC,aG]
 ·exact QH _ _ _ _ _ _ _ b
 ·exact Us _ _ _ _ _ _ b
 ·exact QK _ _ _ _ _ _ b
 ·exact QO _ _ _ _ _ _ _ _ b
 split
 ·rfl
 ·simp only[iC,aG]
 ·rw[g0];simp only[iC,aG]
 split
 ·rfl
 ·simp only[iC,aG]
 rfl
theorem RO {f:fM} (c:Operand->ao) (d:List (Nat×aH)) (e:Oper) (b:bu->Option a):iV f c d e b=(iV f c d e some).bind b:=by
 unfold iV;split
 ·exact yk c d e b
 rw[g0];congr 1;refine(yk _ _ _ _).trans (Eq.trans ?_ (congrArg (λg=>Option.bind g b) (yk _ _ _ _)).symm);simp only[iC,g0,aG]
def Kv:∀{d:List a5} {c b:Nat} {e:List a5},Co c d=some (b,e)->c<=b/\d=List.replicate (b-c) .snd++.fst::e
 |[],_,_,_,a=>by cases a
 |s::d,c,b,e,a=>by
  cases s<;>simp only[Co] at a<;>first|(cases a;done)|skip
  ·cases a;exact⟨a2 _,ac⟩
  obtain⟨g,f⟩:=Kv a;refine⟨U,?_⟩;rw[(U:b-c=(b-(c+1))+1),List.replicate_succ,jb,<-f]
def Cp {c:List a5} (a:yu j=some (b,c)):j=.deref::.unst::(List.replicate b .snd++.fst::c):=by
 unfold yu at a;split at a
 ·rename_i j;have:=(Kv a).2;rw[Nat.sub_zero] at this;rw[this]
 cases a
def B4:∀{j k:Nat} {r r':List a5},j≠k->jJ (List.replicate j .snd++.fst::r) (List.replicate k .snd++.fst::r')=true
 |0,0,_,_,a=>absurd rfl a
 |0,k+1,_,_,_=>rfl
 |j+1,0,_,_,_=>rfl
 |j+1,k+1,r,r',a=>B4 (j:=j) (k:=k) (r:=r) (r':=r') (λb=>a (by rw[b]))
def KW:∀{j:Nat} {r:List a5},fE (List.replicate j .snd++.fst::r) (List.replicate j .snd++[.fst])=nO r
 |0,r=>by cases r<;>rfl
 |j+1,r=>KW (j:=j) (r:=r)
def XF {id:Nat} (h:Db j b=true) (e:pO d=some (id,b)) (z:∀k∈d.ids,k=id\/k∉f):iH f [(id,j),(id,[])] d=true:=by
 unfold Db at h;split at h
 case h_2=>cases h
 rename_i k t E;have p:=Cp E;have C:nO j=true:=(by rw[p];rfl);have H:∀i:Nat,Nat.beq i i=true:=pC;have w:∀g,vL g=some b->fE j g=true:=by
  intro g l;unfold vL at l;split at l
  ·have:fE j []=nO j:=by cases j with|nil=>rfl|cons q j=>cases q<;>rfl
   rw[this];exact C
  split at l
  ·rename_i a o;cases l;rw[Cp o,p];have m:(2*a+2)/2=a+1:=U;have n:(2*a+2) %2=0:=U;rw[m,n] at h;show fE (List.replicate k .snd++.fst::t) (List.replicate a .snd++[.fst])=true;by_cases c:k=a
   ·subst c;rw[KW];simpa using h
   exact B3 (B4 c)
  ·rename_i a q F o;cases l;rw[Cp o,p];have m:(2*a+3)/2=a+1:=U;have n:(2*a+3) %2=1:=U;rw[m,n] at h;show fE (List.replicate k .snd++.fst::t) (List.replicate a .snd++.fst::(q::F))=true;by_cases c:k=a
   ·subst c;simp at h
   exact B3 (B4 c)
  cases l
 unfold pO at e;split at e
 ·rename_i i g;split at e
  case h_2=>cases e
  rename_i y r;cases e;cases g with
  |nil=>simp[iH,kk]
  |cons q g=>simp[iH,kk,w _ r]
 ·rename_i i g;split at e
  case h_2=>cases e
  rename_i y r;cases e;simp[iH,kk,FX,w _ r]
 ·rename_i i g J I v;split at e
  case h_2=>cases e
  rename_i a G u o;cases e;have m:(2*a+3)/2=a+1:=U;have n:(2*a+3) %2=1:=U;rw[m,n] at h;have A:jJ j g=true:=by
   rw[Cp o,p];show jJ (List.replicate k .snd++.fst::t) (List.replicate a .snd++.fst::G)=true;by_cases c:k=a
   ·subst c;simp at h
   exact B4 c
  have D:(v.all λi=>!(du i f))=true:=fd.2 λx s=>by
   rcases z x (fk _ s) with c|c
   ·rw[c] at s;rw[fG.2 s] at u;cases u
   cases B:du x f
   ·rfl
   exact absurd (fG.1 B) c
  show((v.all λi=>!(du i f))&&([(id,j),(id,[])].any λc=>Nat.beq c.1 id&&jJ c.2 g))=true;rw[D];simp[A]
 cases e
section
theorem Gp {g B:Operand->ao} {b:List (Nat×Operand)} (d:∀e∈b,g e.2=B e.2):∀(f:aj) (a:Nat),o2 g b f a=o2 B b f a
 |.pr j h,a=>by
  simp only[o2,Gp d h (a+1)];cases i:kN b a with
  |none=>rfl
  |some c=>
   have:g c=B c:=d (a,c) (yG i);grind
 |.nil,_=>rfl
 |.int _,_=>rfl
 |.bool,_=>rfl
 |.str,_=>rfl
 |.bb _ _,_=>rfl
 |.ptr _ _,_=>rfl
 |.osl _,_=>rfl
 |.optr _,_=>rfl
 |.st _,_=>rfl
 |.di,_=>rfl
 |.mp _,_=>rfl
 |.dN _ _,_=>rfl
theorem Lu {h:List (Nat×aH)} {g B:Operand->ao} {b:List (Nat×Operand)} (d:∀e∈b,g e.2=B e.2):∀(f:aj) (a:Nat),lL h g b f a=lL h B b f a
 |.pr k i,a=>by
  simp only[lL,Lu d i (a+1)];cases j:kN b a with
  |none=>rfl
  |some c=>
   have:g c=B c:=d (a,c) (yG j);grind
 |.nil,_=>rfl
 |.int _,_=>rfl
 |.bool,_=>rfl
 |.str,_=>rfl
 |.bb _ _,_=>rfl
 |.ptr _ _,_=>rfl
 |.osl _,_=>rfl
 |.optr _,_=>rfl
 |.st _,_=>rfl
 |.di,_=>rfl
 |.mp _,_=>rfl
 |.dN _ _,_=>rfl
section
variable {tt:List (TypeId×aj)} {an:List (Nat×aj)} {h A:List (Nat×aH)} {d:Nat} {g B:Operand->ao}
theorem C8 {a:adV} (c:∀b∈a.toArray,g b=B b):a.map g=a.map B:=by
 cases a with
 |none=>rfl
 |some b=>grind
theorem Sf (b:∀a∈N.operands,g a=B a):fl tt an h g d N=fl tt an h B d N:=by
 cases N
 case build T ps=>
  have:∀e∈ps.toList,g e.2=B e.2:=λe l=>b e.2 (by simp only[Op.operands,wX,de];grind);grind [Gp,fl,w9]
 case buildSlice T n ps=>
  have:∀e∈ps.toList,g e.2=B e.2:=λe l=>b e.2 (by simp only[Op.operands,wX,de];grind);grind [List.map_congr_left,fl,vc]
 case slice T a i hi o=>
  simp only[Op.operands] at b;have s:g a=B a:=b a ac;have t:i.map g=i.map B:=C8 (λf m=>b f (by grind));have u:hi.map g=hi.map B:=C8 (λf m=>b f (by grind));cases o
  ·grind [fl]
  rfl
 case makeMap T p=>
  cases p<;>rfl
 case makeFunc k r cs=>
  cases k<;>try rfl
  grind [List.map_congr_left,Array.mem_append_right,fl,Op.operands]
 case call c=>
  obtain⟨q,j,x⟩:=c;have v:∀a∈j.toList,g a=B a:=λa w=>b a (by grind [Array.mem_append_right,Op.operands,Call.operands]);clear b;simp only[fl];split
  ·grind
  ·grind [List.map_congr_left]
  ·grind [List.map_congr_left]
  rfl
 all_goals (simp only[Op.operands] at b;simp only[fl])
 all_goals (first|rfl|(simp_all;done))
theorem Si (b:∀a∈N.operands,g a=B a):jn tt an h g d N=jn tt an h B d N:=by
 cases N
 case slice T a i hi k=>
  simp only[Op.operands] at b;have f:g a=B a:=b a ac;have m:i.map g=i.map B:=C8 (λe j=>b e (by grind));have n:hi.map g=hi.map B:=C8 (λe j=>b e (by grind));cases k
  ·simp_all [jn]
  rfl
 case call c=>
  grind [Array.mem_append_right,al,jn,Op.operands,Call.operands]
 case unOp l T a=>
  have f:g a=B a:=b a (by simp[Op.operands]);cases l<;>simp only[jn,f]
 all_goals (simp only[Op.operands] at b;simp only[jn])
 all_goals (first|rfl|(simp_all;done))
theorem JS {k:fM} {n:Oper} {r:bu->Option a} (c:∀j∈n.op.operands,g j=B j):al k g h n r=al k B h n r:=by
 have x:=λ(d:Nat)=>Si (tt:=k.tt) (an:=k.an) (h:=h) (d:=d) c;have w:=λ(d:Nat)=>Sf (tt:=k.tt) (an:=k.an) (h:=h) (d:=d) c;unfold al;cases y:n.dst with
 |none=>
  simp only;split
  ·grind [Op.operands]
  ·grind [Op.operands]
  ·grind [Op.operands]
  ·grind [Op.operands]
  ·rename_i i t e;rw[e] at c;split
   ·rename_i j u l s al _;have p:∀b∈i.toList,g b=B b:=λb m=>c b (by grind [Array.mem_append_right,Op.operands,Call.operands]);grind
   rfl
  rfl
 |some d=>
  simp only;congr 1;split
  ·grind [Op.operands]
  ·rename_i b i _ e;rw[e] at c;have:i.toList.map g=i.toList.map B:=h3 λj p=>c j (by grind [Array.mem_append_right,Op.operands,Call.operands]);have m:g b=B b:=c b (by simp[Op.operands,Call.operands]);rw[this,m]
  ·rename_i i t e;rw[e] at c;split
   ·rename_i j u l s al _;have p:∀b∈i.toList,g b=B b:=λb m=>c b (by grind [Array.mem_append_right,Op.operands,Call.operands]);grind
   rfl
  ·rename_i i t e;rw[e] at c;split
   ·rename_i j u l s al _;have p:∀b∈i.toList,g b=B b:=λb m=>c b (by grind [Array.mem_append_right,Op.operands,Call.operands]);grind
   rfl
  ·grind [Op.operands]
  ·rename_i l q e;rw[e] at c;have o:∀f∈q.toList,g f.2=B f.2:=λf v=>c f.2 (by simp only[Op.operands,wX,de];grind);simp only[qY,Gp o,Lu o]
  ·grind [Op.operands]
  ·grind [Op.operands]
  ·rename_i l z q e;rw[e] at c;have o:∀f∈q.toList,g f.2=B f.2:=λf v=>c f.2 (by simp only[Op.operands,wX,de];grind);grind [List.map_congr_left,q0]
  grind
def eU (h A:List (Nat×aH)) (a:ao):Prop:=∀id∈a.ids,au h id=au A id
def XL (a:eU h A t):qq h t=qq A t:=by
 cases t with
 |ref id b=>simp only[qq,a id (by simp[ao.ids])]
 |_=>rfl
theorem XK {id:Nat} (a:qq h t=some (id,j)):id∈t.ids:=by
 unfold qq at a;split at a
 ·grind [ao.ids]
 ·grind [ao.ids]
 grind
theorem Zx {b:ao} {d:bu->Option a} (e:eU h A b) (g:eU h A t):qy tt h c b t d=qy tt A c b t d:=by
 unfold qy;rw[<-XL e];split
 ·rfl
 rename_i id j f;rw[e id (XK f)];cases t with
 |ref i k=>simp only[g i (by simp[ao.ids])]
 |_=>rfl
theorem O8 (a:eU h A t):j0 h n t=j0 A n t:=by
 cases t with
 |ref id b=>simp only[j0,a id (by simp[ao.ids])]
 |view id b e d=>simp only[j0,a id (by simp[ao.ids])]
 |val c g=>cases c<;>rfl
 |cv f=>unfold j0;grind
 |_=>rfl
theorem Qj {e:ao} {j:bu->Option a} (f:eU h A e) (k:eU h A t) (n:au h d=au A d):nD tt an h d c e t j=nD tt an A d c e t j:=by
 unfold nD;split
 ·rfl
 have g:∀i:aj,j0 h i t=j0 A i t:=λi=>O8 k;cases e with
 |ref id b=>
  cases b with
  |nil=>
   simp only[f id (by simp[ao.ids]),g];cases t with
   |ref o l=>
    cases l with
    |nil=>simp only[k o (by simp[ao.ids])]
    |cons m l=>rfl
   |_=>rfl
  |cons m b=>simp only[f id (by simp[ao.ids]),g,n]
 |view id b q p=>
  cases b with
  |nil=>simp only[f id (by simp[ao.ids]),g]
  |cons m b=>rfl
 |cv r=>grind
 |_=>rfl
def Xu {a:ao} (d:eU h A t):ub h a t=ub A a t:=by
 unfold ub;cases a with
 |ref id b=>
  cases b with
  |nil=>rfl
  |cons f b=>
   cases t with
   |ref e c=>
    cases c with
    |nil=>simp only[d e (by simp[ao.ids])]
    |cons g c=>rfl
   |_=>rfl
 |_=>rfl
theorem Qm {b:ao} {e:bu->Option a} (g:eU h A t) (i:eU h A b) (f:au h d=au A d):mQ tt an h d c t b e=mQ tt an A d c t b e:=by
 unfold mQ;rw[Xu i,Qj g i f];split
 ·rename_i id l k m j;obtain⟨rfl,_,_⟩:=GV j;unfold w7;rw[g id (by simp[ao.ids]),f]
 rfl
theorem RA {e:ao} {g:bu->Option a} (i:eU h A e) (k:eU h A t):pP tt h d c e t g=pP tt A d c e t g:=by
 unfold pP;split
 ·rfl
 have j:∀f:aj,j0 h f t=j0 A f t:=λf=>O8 k;cases e with
 |ref id b=>
  cases b with
  |nil=>simp only[i id (by simp[ao.ids]),j]
  |cons l b=>rfl
 |view id b n m=>
  cases b with
  |nil=>simp only[i id (by simp[ao.ids]),j]
  |cons l b=>rfl
 |_=>rfl
theorem Et (b:eU h A t):oD an h d t=oD an A d t:=by
 cases t with
 |ref id a=>
  cases a with
  |nil=>simp only[oD,b id (by simp[ao.ids])]
  |cons c a=>rfl
 |view id a f e=>
  cases a with
  |nil=>simp only[oD,b id (by simp[ao.ids])]
  |cons c a=>rfl
 |cv t=>unfold oD;grind
 |_=>rfl
def XC (b:eU h A t):wk h n t=wk A n t:=by
 cases t with
 |ref id a=>
  cases a with
  |nil=>simp only[wk,b id (by simp[ao.ids])]
  |cons c a=>rfl
 |_=>rfl
def Lv {b:List (Nat×Operand)} (c:∀i∈b,eU h A (g i.2)):∀(d:aj) (a:Nat),lL h g b d a=lL A g b d a
 |.pr k e,a=>by
  simp only[lL,Lv c e (a+1)];cases f:kN b a with
  |none=>rfl
  |some j=>simp only[XC (c (a,j) (yG f))]
 |.nil,_=>rfl
 |.int _,_=>rfl
 |.bool,_=>rfl
 |.str,_=>rfl
 |.bb _ _,_=>rfl
 |.ptr _ _,_=>rfl
 |.osl _,_=>rfl
 |.optr _,_=>rfl
 |.st _,_=>rfl
 |.di,_=>rfl
 |.mp _,_=>rfl
 |.dN _ _,_=>rfl
def Rg (b:eU h A t):sU h n t=sU A n t:=by
 cases t with
 |ref id a=>
  cases a with
  |nil=>simp only[sU,b id (by simp[ao.ids])]
  |cons c a=>rfl
 |_=>rfl
theorem Jz {c:aj}:∀{l:List ao},(∀a∈l,eU h A a)->sV h c l=sV A c l
 |[],_=>rfl
 |x::d,b=>by simp only[sV,Rg (b x ac),Jz (l:=d) (λa e=>b a (by grind))]
def IX (a:eU h A t):mR h f t n=mR A f t n:=by
 cases t with
 |ref id b=>simp only[mR,a id (by simp[ao.ids])]
 |_=>rfl
theorem ao.Lr {id:Nat} (c:t∈L) (e:id∈t.ids):id∈(ao.dv b L).ids:=by obtain⟨a,d,rfl⟩:=fC.1 c;exact ao.yP (l:=L) (i:=a) (a9 d) e
theorem KA {b:ad4}:∀{τs:List aj} {avs:List ao},(∀a∈avs,eU h A a)->nN h b τs avs=nN A b τs avs
 |[],[],_=>rfl
 |[],_::_,_=>rfl
 |_::_,[],_=>rfl
 |τ::e,d::as,c=>by simp only[nN,IX (c d ac),KA (τs:=e) (avs:=as) (λa f=>c a (by grind))]
theorem rz {S:ad4}:∀{ps:List fQ} {avs:List ao},(∀b∈avs,eU h A b)->ep h S ps avs=ep A S ps avs
 |[],[],_=>rfl
 |[],_::_,_=>rfl
 |p::d,[],_=>by cases p<;>rfl
 |.v q::d,e::as,a=>by simp only[ep,IX (a e ac),rz (ps:=d) (avs:=as) (λb g=>a b (by grind))]
 |.c z r::d,e::as,a=>by
  have f:=rz (S:=S) (ps:=d) (avs:=as) (λb g=>a b (by grind));cases e with
  |dv u i=>
   have:nN h S r i=nN A S r i:=KA (λb g id t=>a (.dv u i) ac id (ao.Lr g t));grind [ep]
  |_=>rfl
 |.m q::d,e::as,a=>by
  have f:=rz (S:=S) (ps:=d) (avs:=as) (λb g=>a b (by grind));cases e with
  |ref id p=>
   cases p with
   |nil=>simp only[ep,a (.ref id []) ac id (by simp[ao.ids]),f]
   |cons l p=>rfl
  |_=>rfl
 |.o q::d,e::as,a=>by
  have f:=rz (S:=S) (ps:=d) (avs:=as) (λb g=>a b (by grind));cases e with
  |ref id p=>
   cases p with
   |nil=>simp only[ep,a (.ref id []) ac id (by simp[ao.ids]),f]
   |cons l p=>rfl
  |cv x=>grind [ep]
  |_=>rfl
 |.w B::d,e::as,a=>by
  have f:=rz (S:=S) (ps:=d) (avs:=as) (λb g=>a b (by grind));cases e with
  |view id p k j=>
   cases p with
   |nil=>simp only[ep,a (.view id [] k j) ac id (by simp[ao.ids]),f]
   |cons l p=>rfl
  |_=>rfl
 |.n::d,e::as,a=>by
  have f:=rz (S:=S) (ps:=d) (avs:=as) (λb g=>a b (by grind));cases e with
  |cv x=>grind [ep]
  |_=>rfl
 |.s y i::d,e::as,a=>by
  have f:=rz (S:=S) (ps:=d) (avs:=as) (λb g=>a b (by grind));cases e with
  |ref id p=>grind [ep]
  |view id p k j=>grind [ep]
  |_=>simp only[ep,f]
theorem TU (a:eU h A t):tL tt h c t=tL tt A c t:=by
 unfold tL;cases t with
 |ref id d=>simp only[a id (by simp[ao.ids])]
 |app id d b i e=>simp only[a id (by simp[ao.ids])]
 |val b j=>cases fh tt c with|none=>rfl|some f=>cases b<;>rfl
 |cv g=>grind
 |_=>rfl
theorem UA (a:eU h A t):tS tt h c t=tS tt A c t:=by
 unfold tS;cases t with
 |ref id d=>simp only[a id (by simp[ao.ids])]
 |val b f=>cases jR tt c with|none=>rfl|some e=>cases b<;>rfl
 |_=>rfl
def T4 {a:ao} (b:eU h A t):tN tt h c t a I=tN tt A c t a I:=by
 unfold tN;cases t with
 |ref id e=>simp only[b id (by simp[ao.ids])]
 |val d f=>split<;>first|rfl|(cases d<;>rfl)
 |_=>split<;>rfl
theorem Uy (a:au h d=au A d):v8 tt an h d c=v8 tt an A d c:=by grind [v8]
theorem Gt {b:bu->Option a} {d e:ao} (f:eU h A t):m6 tt h c t d e b=m6 tt A c t d e b:=by
 unfold m6;cases t with
 |ref id g=>simp only[f id (by simp[ao.ids])]
 |_=>rfl
theorem Ut {b:bu->Option a} {e:ao} (f:eU h A t):qk tt h d c t e b=qk tt A d c t e b:=by
 unfold qk;cases t with
 |ref id g=>simp only[f id (by simp[ao.ids])]
 |_=>rfl
theorem R8 {b:bu->Option a} {d e:ao} (f:eU h A t):p5 tt h c t d e b=p5 tt A c t d e b:=by unfold p5;grind [Gt]
theorem Uk {b:bu->Option a} {d:ao} (e:eU h A t):qj tt h c t d b=qj tt A c t d b:=by
 unfold qj;cases t with
 |ref id f=>simp only[e id (by simp[ao.ids])]
 |_=>rfl
def To {b:ao} (a:eU h A t):tG tt h c t b=tG tt A c t b:=by
 unfold tG;cases t with
 |ref id d=>simp only[a id (by simp[ao.ids])]
 |view id d g f=>simp only[a id (by simp[ao.ids])]
 |val e j=>cases e<;>rfl
 |cv i=>rfl
 |_=>rfl
theorem T1 (a:eU h A t):tM tt h c t=tM tt A c t:=by
 unfold tM;cases t with
 |ref id b=>simp only[a id (by simp[ao.ids])]
 |addr id b=>simp only[a id (by simp[ao.ids])]
 |val d f=>cases d<;>first|rfl|grind
 |cv e=>rfl
 |_=>rfl
theorem SN (a:eU h A t):tw tt h c t b=tw tt A c t b:=by
 unfold tw;cases t with
 |ref id d=>simp only[a id (by simp[ao.ids])]
 |addr id d=>simp only[a id (by simp[ao.ids])]
 |val e g=>cases e<;>first|rfl|grind
 |cv f=>rfl
 |_=>rfl
def SP (a:eU h A t):h2.vM tt h c t b=h2.vM tt A c t b:=by
 unfold h2.vM;cases t with
 |ref id e=>simp only[a id (by simp[ao.ids])]
 |val d g=>cases d<;>rfl
 |cv f=>rfl
 |_=>rfl
def UO (a:eU h A t):tV h t=tV A t:=by
 unfold tV;cases t with
 |ref id c=>simp only[a id (by simp[ao.ids])]
 |val b e=>cases b<;>rfl
 |cv d=>rfl
 |_=>rfl
def Zi {b a:Option ao} (d:eU h A t):ur tt h c t b a=ur tt A c t b a:=by
 unfold ur;cases t with
 |ref id f=>simp only[d id (by simp[ao.ids])]
 |val e i=>cases e<;>rfl
 |cv g=>rfl
 |_=>rfl
theorem Uf {a:ao} (b:au h d=au A d):tQ tt an h d c a t=tQ tt an A d c a t:=by grind [tQ]
theorem Qc (a:au h d=au A d):u2 tt an h d c=u2 tt an A d c:=by grind [u2]
theorem Sg (b:∀a∈N.operands,eU h A (g a)) (e:au h d=au A d):fl tt an h g d N=fl tt an A g d N:=by
 cases N
 case box T a=>grind [fl,xa]
 case buildSlice T n ps=>grind [fl,vc]
 case alloc T=>exact Qc e
 case makeSlice T l c=>exact Uf e
 case makeMap T o=>
  cases o
  ·exact Uy e
  rfl
 case lookup T a k ok=>exact T4 (b a (by simp[Op.operands]))
 case load T a=>exact T1 (b a (by simp[Op.operands]))
 case nilCheck a=>exact UO (b a (by simp[Op.operands]))
 case indexAddr T a i=>exact To (b a (by simp[Op.operands]))
 case fieldAddr T a n=>exact SN (b a (by simp[Op.operands]))
 case field T a n=>exact SP (b a (by simp[Op.operands]))
 case slice T a t hi m=>
  cases m
  ·exact Zi (b a (by simp[Op.operands]))
  rfl
 case call c=>
  obtain⟨p,f,u⟩:=c;have r:∀a∈f.toList,eU h A (g a):=λa s=>b a (by grind [Array.mem_append_right,Op.operands,Call.operands]);clear b;simp only[fl];split
  ·grind [UA,TU]
  ·rfl
  ·rfl
  rfl
 case makeFunc j q cs=>cases j<;>rfl
 all_goals rfl
theorem Sj (j:∀b∈N.operands,eU h A (g b)) (y:au h d=au A d):jn tt an h g d N=jn tt an A g d N:=by
 cases N
 case lookup f b k ok=>
  have a:=j b (by simp[Op.operands]);simp only[jn];split
  ·rename_i v id e z al q x;rw[q] at a;rw[a id (by simp[ao.ids])]
  rfl
 case makeSlice f l c=>grind [jn]
 case unOp u f b=>cases u<;>rfl
 case indexAddr f b i=>
  have a:=j b (by simp[Op.operands]);simp only[jn];revert a;cases g b with
  |ref id e=>intro a;simp only[a id (by simp[ao.ids])]
  |view id e s r=>
   intro a;cases e with
   |nil=>simp only[a id (by simp[ao.ids])]
   |cons=>rfl
  |val m o=>intro _;cases m<;>rfl
  |_=>intro _;rfl
 case load f b=>
  have a:=j b (by simp[Op.operands]);simp only[jn];revert a;cases g b with
  |ref id e=>intro a;simp only[a id (by simp[ao.ids])]
  |addr id e=>intro a;simp only[a id (by simp[ao.ids])]
  |val m o=>intro _;cases m<;>rfl
  |_=>intro _;rfl
 case slice f b s r t=>
  have a:=j b (by simp[Op.operands]);cases t
  ·simp only[jn];revert a;cases g b with
   |ref id e=>intro a;simp only[a id (by simp[ao.ids])]
   |val m o=>intro _;cases m<;>rfl
   |_=>intro _;rfl
  rfl
 case call c=>
  obtain⟨w,p,B⟩:=c;have n:∀b∈p.toList,eU h A (g b):=λb a=>j b (by grind [Array.mem_append_right,Op.operands,Call.operands]);clear j;simp only[jn];split
  ·rename_i b f al _;rw[al] at n;have a:=n b ac;cases fh tt f with
   |none=>
    revert a;cases g b with
    |ref id e=>intro a;simp only;rw[a id (by simp[ao.ids])]
    |_=>intro _;rfl
   |some v=>
    revert a;cases g b with
    |ref id e=>intro a;simp only;rw[a id (by simp[ao.ids])]
    |_=>intro _;rfl
  rfl
 all_goals rfl
theorem rN {a:Callee} (b:m∈R.toList):m∈(Op.call {callee:=a,args:=R,argTypes:=V}).operands:=by grind [Array.mem_append_right,Op.operands,Call.operands]
theorem JT {t:fM} {s:Oper} (a:al t g h s some=some p) (e:∀l∈s.op.operands,eU h A (g l)) (o:∀d,s.dst=some d->au h d=au A d) (q:∀b∈p.put,au h b.1=au A b.1):al t g A s some=some p:=by
 unfold al at a|-;cases v:s.dst with
 |none=>
  rw[v] at a;simp only at a|-;split at a
  ·grind [Zx,Op.operands]
  ·grind [Gt,Op.operands]
  ·grind [Gt,Op.operands]
  ·grind [R8,Op.operands]
  ·grind [Uk,rN]
  omega
 |some d=>
  rw[v] at a;have o:=o d v;simp only at a|-;cases G:fX t.n t.pin d with
  |false=>grind
  |true=>
  rw[G] at a;simp only[cond_true] at a|-;split at a
  ·omega
  ·rename_i J z _ i;rw[i] at e;split at a
   case h_2=>cases a
   rename_i D x I
   try rw[I]
   try simp only
   have F:∀j∈z.toList.map g++x,eU h A j:=λj k=>by
    rcases eN.1 k with k|k
    ·grind [rN]
    intro id N;exact e J (by simp[Op.operands,Call.operands]) id (by grind [ao.Lr])
   split at a
   ·cases a
   rename_i c K;cases E:Nat.beq c.f D with
   |false=>grind
   |true=>
   rw[E] at a;simp only[cond_true,mj] at a|-;rw[<-rz F];obtain⟨j,k,a⟩:=dp.1 a;obtain⟨m,H,a⟩:=dp.1 a;simp only[k,H,aG];cases C:mb d ⟨[],h⟩ (z.toList.map g++x) (eZ c.ps j m) (hM c.rs (g2 c.ps m)) with
   |false=>grind
   |true=>
   rw[C] at a;have L:mb d ⟨[],A⟩ (z.toList.map g++x) (eZ c.ps j m) (hM c.rs (g2 c.ps m))=true:=(by rw[<-C];unfold mb;congr 1;rw[n9,fd,fd];cases a;have w:∀b∈hO d (hq (hM c.rs (g2 c.ps m))) 0 (hM c.rs (g2 c.ps m)),au h b.1=au A b.1:=λb w=>q b (by grind);grind);grind
  ·grind [Qm,rN]
  ·grind [RA,rN]
  ·rename_i l i;rw[i] at e;have r:=e l (by simp[Op.operands]);revert a r;cases g l with
   |val T S=>grind
   |cv R=>grind [Et]
   |ref id u=>grind [Et]
   |view id u O M=>grind [Et]
   |_=>intro a _;exact a
  ·rename_i B y i;rw[i] at e;have q:∀b∈y.toList,eU h A (g b.2):=λb w=>e b.2 (by simp only[Op.operands,wX,de];grind);rw[<-a];simp only[qY,Lv q,o]
  ·grind [Ut,Op.operands]
  ·rename_i B l i;rw[i] at e;have r:=e l (by simp[Op.operands]);rw[<-a];simp only[sR,o];revert r;cases g l with
   |ref id u=>
    intro r;cases u with
    |nil=>simp only[r id (by simp[ao.ids])]
    |cons Q u=>rfl
   |_=>intro _;rfl
  ·rename_i B P y i;rw[i] at e;have q:∀j∈y.toList.map (λb=>g b.2),eU h A j:=λj k=>by
    obtain⟨b,w,rfl⟩:=de.1 k;exact e b.2 (by simp only[Op.operands,wX,de];grind)
   rw[<-a];simp only[q0,Jz q,o]
  grind [Sj,Sg]
end
theorem O0:∀d∈qA N,d∈N.operands:=by
 intro d b;cases N<;>simp only[qA] at b<;>first|(cases b;done)|skip
 case assign y=>grind [Op.operands]
 case box T y=>grind [Op.operands]
 case build T ps=>grind [Op.operands]
 case buildSlice T n ps=>grind [Op.operands]
 case store T a v=>grind [Op.operands]
 case mapUpdate T a k v=>grind [Op.operands]
 case insert T a k v=>grind [Op.operands]
 case entryStore T a k v=>grind [Op.operands]
 case call c=>
  obtain⟨f,e,g⟩:=c;simp only at b;split at b
  ·exact rN b
  ·exact rN (List.mem_of_mem_drop b)
  grind
theorem Cm {e:ad6} {f:Nat} {g:Operand->ao}:∀{a:List Operand},∀id∈k6 e f g a,∃x∈a,g x=.ref id []
 |[],id,h=>by cases h
 |x::a,id,h=>by
  simp only[k6] at h;split at h
  ·rename_i j i;rw[Bool.cond_eq_ite] at h;split at h
   ·rcases dx.1 h with rfl|h
    ·grind
    obtain⟨d,c,b⟩:=Cm id h;grind
   obtain⟨d,c,b⟩:=Cm id h;grind
  obtain⟨d,c,b⟩:=Cm id h;grind
theorem Ku {a:ad6} {c:Nat} {g B:Operand->ao}:∀{l:List Operand},(∀x∈l,g x=B x)->k6 a c g l=k6 a c B l
 |[],_=>rfl
 |x::l,b=>by simp only[k6,b x ac,Ku (l:=l) (λd e=>b d (by grind))]
theorem Kt {h A:List (Nat×aH)} (c:∀id∈f,au h id=au A id) (a:ao):fy h f a=fy A f a:=by
 cases a with
 |ref id b=>
  cases b with
  |nil=>
   grind [fG,du,fy]
  |cons d b=>rfl
 |_=>rfl
theorem SZ {h A:List (Nat×aH)} (d:∀id∈f,au h id=au A id) (a:ao):hn h f a=hn A f a:=by
 by_cases c:∃b,a=.dM b
 ·obtain⟨b,rfl⟩:=c;grind [List.map_congr_left,Kt,hn]
 grind [FG,Kt]
theorem Ks {h:List (Nat×aH)}:∀id∈(fy h f d).ids,id∈d.ids:=by
 intro id b;rcases lI h f d with⟨e,c,rfl,_,_,a⟩|⟨a,_⟩|⟨a,_⟩
 ·rw[a] at b;have:(p9 c).ids=[]:=(by unfold p9;split<;>rfl);grind
 ·rw[a] at b;cases b
 grind
def KL {c:ao->ao} (d:∀a,∀id∈(c a).ids,id∈a.ids):∀{b:List ao} {id:Nat},id∈ao.mZ (b.map c)->id∈ao.mZ b
 |[],_,h=>h
 |a::b,id,h=>by simp only[fr,ao.mZ,eN] at h|-;exact h.imp (d a id) (KL d)
theorem SY {h:List (Nat×aH)}:∀id∈(hn h f d).ids,id∈d.ids:=by
 by_cases c:∃a,d=.dM a
 ·obtain⟨a,rfl⟩:=c;exactλid b=>KL (λd=>Ks) b
 grind [FG,Ks]
theorem RQ {i:fM} {g B:Operand->ao} {h A:List (Nat×aH)} {b:Oper} (c:iV i g h b some=some p) (o:∀a∈b.op.operands,g a=B a) (n:∀a∈b.op.operands,eU h A (g a)) (t:∀d,b.dst=some d->au h d=au A d) (y:∀l∈p.put,au h l.1=au A l.1):iV i B A b some=some p:=by
 unfold iV at c|-;rw[<-Ku (λa f=>o a (O0 a f))];split
 ·rename_i j;rw[j] at c;rw[<-JS o];grind [JT]
 rename_i x;split at c
 ·grind
 have j:∀id∈k6 i.qa (tz b) g (qA b.op),au h id=au A id:=λid k=>(by obtain⟨a,f,p⟩:=Cm id k;exact n a (O0 a f) id (by grind [ao.ids]));generalize k6 i.qa (tz b) g (qA b.op)=e at c j|-;have r:md A e=md h e:=(by unfold md;grind);rw[r];cases s:md h e with
 |false=>grind
 |true=>
 rw[s] at c;simp only[cond_true] at c|-;rw[yk] at c|-;obtain⟨m,q,v⟩:=dp.1 c;have z:m.put=p.put:=(by grind);have w:al i (λa=>hn A e (B a)) (del e A) b some=some m:=by
  rw[<-JS (g:=λa=>hn h e (g a)) (λa f=>by grind [SZ])];refine JT q (λa f id k=>?_) (λd u=>?_) (λl C=>?_)
  ·rw[lK,lK,n a f id (SY id k)]
  ·rw[lK,lK,t d u]
  grind [lK]
 grind
end
section
def o4 (D:Array Oper) (a:Nat):ad4:=match D[a]? with
 |some b=>(b.after.toList.filter (Region.binds .any)).map (·.on)
 |none=>[]
def wz (a:Nat):bu:=⟨some (a,.cv undef),[],[],[]⟩
def B8 (ic:fM) {d:Type} (G C:ad4) (a:aQ) (c:Oper) (e:bu->Option d):Option d:=
 iV ic (aV a.g) a.h c λb=>bif p8 G C (aV a.g) c b then e b else none
def g7 (ic:fM) (D:Array Oper) (G C:Nat->ad4) (e:Nat) (b:aQ) (d:bu):Prop:=
 ∃a,D[e]?=some a/\((ju D b a true/\iV ic (aV b.g) b.h a some=some d/\p8 (G e) (C e) (aV b.g) a d=true)\/(ju D b a false/\∃c,a.dst=some c/\fX ic.n ic.pin c=true/\d=wz c))
def rB (ic:fM) {k:Type} (D:Array Oper) (G C:Nat->ad4):ad4->aQ->(aQ->Option k)->Option k
 |[],a,b=>b a
 |i::e,a,b=>match D[i]? with
  |none=>none
  |some f=>match f.guard with
   |none=>B8 ic (G i) (C i) a f λj=>rB ic D G C e (j.app a) b
   |some (
    l,sg)=>match(D[l]?).bind (·.dst),f.dst with
    |some d,some c=>match gt a.g d with
     |.val .bool m=>bif fX ic.n ic.pin c then
      (match m==sg with
      |true=>B8 ic (G i) (C i) ⟨(d,.val .bool sg)::a.g,a.h⟩ f λj=>rB ic D G C e (j.app ⟨(d,.val .bool sg)::a.g,a.h⟩) b
      |false=>rB ic D G C e ⟨(c,.cv undef)::(d,.val .bool (!sg))::a.g,a.h⟩ b) else none
     |.cv (.tuple _)=>bif fX ic.n ic.pin c then rB ic D G C e ⟨(c,.cv undef)::a.g,a.h⟩ b else none
     |_=>none
    |_,_=>none
def mL (ic:fM) (D:Array Oper) (G C:Nat->ad4):ad4->aQ->aQ->Prop
 |[],a,b=>jh a b
 |i::d,a,b=>∃c,g7 ic D G C i a c/\mL ic D G C d (c.app a) b
theorem Qh {tt:List (TypeId×aj)} {id:Nat} (a:mQ tt k e b c (.ref id (T::j)) d some=some p):p.keep=[(id,T::j),(id,[])]/\p.S=[id]/\au p.put id=au e id:=by
 have n:∀{g:ao} {f:aH},au e id=some f->au e b=none->some (bu.mk (some (b,g)) [id] [(id,T::j),(id,[])] [(b,⟨.di,()⟩),(id,f)])=some p->p.keep=[(id,T::j),(id,[])]/\p.S=[id]/\au p.put id=au e id:=(by intro g f h o i;cases i;have l:¬b=id:=λp=>(by grind);exact⟨rfl,rfl,by rw[b1,ah l,b1,ai rfl,h]⟩);unfold mQ at a;split at a
 ·rename_i q s r t m;obtain⟨al,_,_⟩:=GV m;cases al;unfold w7 at a;split at a
  case h_2=>cases a
  grind [Option.bind_eq_some_iff]
 unfold nD at a;split at a
 ·cases a
 rename_i u _;simp only at a;split at a
 case h_2=>cases a
 grind [Option.bind_eq_some_iff]
theorem Er {id:Nat} (e:qT F h=some (id,j)):∃d f c g b a,h.op=.call {callee:=.builtin .append,args:=d,argTypes:=f}/\d.toList=[c,g]/\j=b::a/\F c=.ref id (b::a):=by unfold qT at e;grind
theorem JR {ic:fM} {g:Operand->ao} {id:Nat} {b:List a5} (f:h.op=.call {callee:=.builtin .append,args:=R,argTypes:=V}) (k:R.toList=[m,w]) (o:j=T::b) (l:g m=.ref id (T::b)) (a:al ic g e h some=some p):p.keep=[(id,j),(id,[])]/\p.S=[id]/\au p.put id=au e id:=by
 unfold al at a;cases d:h.dst with
 |none=>grind
 |some c=>
  rw[d] at a;simp only at a;cases i:fX ic.n ic.pin c with
  |false=>grind
  |true=>
  rw[i] at a;simp only[cond_true,f,k] at a;grind [Qh]
theorem JV {ic:fM} {id:Nat} (x:qT F h=some (id,j)) (c:iV ic F e h some=some p):p.keep=[(id,j),(id,[])]/\au p.put id=au e id:=by
 obtain⟨N,L,k,O,i,f,q,r,C,o⟩:=Er x;unfold iV at c;split at c
 ·grind [JR]
 generalize k6 ic.qa (tz h) F (qA h.op)=b at c;cases z:md e b with
 |false=>grind
 |true=>
 rw[z] at c;simp only[cond_true] at c;rw[yk] at c;obtain⟨l,a,m⟩:=dp.1 c;cases B:l.keep.all (λs=>!du s.1 b) with
 |false=>grind
 |true=>
 rw[B] at m;cases m;have d:hn e b (.ref id (i::f))=.ref id (i::f)\/hn e b (.ref id (i::f))=.dead:=by
  rw[FG (by grind)];rcases lI e b (.ref id (i::f)) with⟨s,K,p,_⟩|⟨p,_⟩|⟨p,_⟩
  ·cases p
  ·grind
  grind
 rcases d with d|d
 ·obtain⟨E,_,G⟩:=JR (g:=λk=>hn e b (F k)) q r C (by show hn e b (F k)=_;rw[o];exact d) a;refine⟨E,?_⟩;show au l.put id=_;rw[G,lK];have J:id∉b:=λI=>by
   grind [fG,List.all_eq_true]
  grind
 exfalso;unfold al at a;cases A:h.dst with
 |none=>grind
 |some v=>
  rw[A] at a;simp only at a;cases D:fX ic.n ic.pin v with
  |false=>grind
  |true=>
  rw[D] at a;simp only[cond_true,q,r] at a;split at a
  case h_2=>cases a
  rename_i M P t u w H;cases w;cases y:Nat.beq t u with
  |false=>grind
  |true=>
  rw[y] at a;simp only[cond_true,o,d,mQ,ub,nD] at a;grind
section
variable {ic:fM} {D:Array Oper} {G C:Nat->ad4}
theorem B6.ok {e:Option (Nat×ao)} {a:ad0} (c:B6 e a=true):∀d b,e=some (d,b)->a=some d:=by
 intro d b g;subst g;cases a with
 |none=>cases c
 |some f=>rw[eF (show Nat.beq d f=true from c)]
theorem JX {c:Oper} {d:bu->Option a} {e:a} (j:B8 ic f x i c d=some e):∃b,iV ic (aV i.g) i.h c some=some b/\p8 f x (aV i.g) c b=true/\d b=some e:=by unfold B8 at j;grind [Option.bind_eq_some_iff,RO]
def lu (b:ad4) (a:ao):Prop:=(∀id∈a.ids,id∈b)\/(∃id,a=.ref id []/\id+500000∈b)\/∃id c,pO a=some (id,c)/\id<500000/\id+1000000*c∈b/\∀d∈a.ids,d=id\/d∈b
theorem rF.ok (a:rF f d=true):∃id b,pO d=some (id,b)/\id<500000/\id+1000000*b∈f/\∀c∈d.ids,c=id\/c∈f:=by
 unfold rF at a;split at a
 case h_2=>cases a
 rename_i id b e;simp only[bp] at a;refine⟨id,b,e,e4 a.1,fG.1 a.2.1,λc g=>?_⟩;simp_all [eF,fG,fK,fd]
theorem n3.ok (a:n3 f d=true):∃id,d=.ref id []/\id+500000∈f:=by unfold n3 at a;grind [fG]
theorem lu.ok {c:ad4} {b:ao} (a:(n4 b.ids c||n3 c b)=true):lu c b:=by
 rcases fK _ _▸a with a|a
 ·exact .inl (n4.ok a)
 exact .inr (.inl (n3.ok a))
theorem lu.VU (a:(n4 d.ids f||(n3 f d||rF f d))=true):lu f d:=by
 simp only[fK] at a;rcases a with a|a|a
 ·exact .inl (n4.ok a)
 ·exact .inr (.inl (n3.ok a))
 exact .inr (.inr (rF.ok a))
theorem Kd (a:vL j=some b):1<=b:=by unfold vL at a;grind
theorem Rf {id:Nat} (a:pO d=some (id,b)):1<=b:=by
 unfold pO at a;split at a
 ·split at a
  ·rename_i c;cases a;exact Kd c
  grind
 ·split at a
  ·rename_i c;cases a;exact Kd c
  grind
 ·grind
 grind
def Ij (e:Op) (c:ad4) (b:ao):Prop:=
 (∃f d g a,e=.extract f d/\b=.dM g/\g[d]?=some a/\rT a=true/\lu c a)\/
 ((∀f d,e≠.extract f d)/\Aj b=true/\lu c b/\((∀id∈b.ids,id∈c\/∃a,1<=a/\id<500000/\id+1000000*a∈c)\/vQ e=true))
theorem m8.ok {h:Op} {f:ad4} {e:ao} (a:m8 h f e=true):Ij h f e:=by
 unfold m8 at a;split at a
 ·rename_i d b;split at a
  case h_2=>cases a
  rename_i q;split at a
  case h_2=>cases a
  rename_i c o;rw[bp] at a;exact .inl ⟨d,b,q,c,rfl,rfl,o,a.1,.ok a.2⟩
 rename_i p;simp only[bp,fK] at a;refine .inr ⟨λd b i=>p d b i,a.1,?_⟩;rcases a.2 with a|⟨a,j⟩|a
 ·exact⟨.inl (n4.ok a),.inl λb g=>.inl (n4.ok a b g)⟩
 ·exact⟨.inr (.inl (n3.ok j)),.inr a⟩
 obtain⟨id,c,k,l,m,n⟩:=rF.ok a;refine⟨.inr (.inr ⟨id,c,k,l,m,n⟩),.inl λb g=>?_⟩;grind
theorem p8.ok {i b:ad4} {j:Operand->ao} {g:Oper} {c:bu} (a:p8 i b j g c=true):(∀d f,c.d=some (d,f)->g.dst=some d)/\(∀l∈g.op.operands,Ij g.op i (j l))/\(∀id∈c.S,id<500000/\(id∈b/\(id+500000∈b\/kk c.keep (.ref id [])=true)\/id+1500000∈b))/\(∀h∈c.put,h.1<500000/\(h.1∈b\/h.1+1500000∈b))/\(∀d f,c.d=some (d,f)->lu i f)/\(∀e∈b,1000000<=e->∃id k,qT j g=some (id,k)/\e %1000000=id+500000/\id<500000/\Db k (e/1000000)=true):=by
 unfold p8 at a;simp only[bp] at a;obtain⟨⟨⟨⟨m,t⟩,n⟩,o⟩,u,p⟩:=a;refine⟨B6.ok m,λl y=>?_,λid q=>?_,λh s=>?_,λd f w=>?_,λe r x=>?_⟩
 ·grind [m8.ok,List.all_eq_true]
 ·have:=fd.1 n id q;simp_all [e4,fG,bp,fK]
 ·have:=fd.1 o h s;simp_all [e4,fG,bp,fK]
 ·grind [lu.VU]
 have:=fd.1 p e r;rw[fK] at this;rcases this with a|a
 ·have:e<1000000:=e4 a;omega
 split at a
 case h_2=>cases a
 rename_i id k v;simp only[bp] at a;grind [Nat.eq_of_beq_eq_true,Nat.le_of_ble_eq_true]
def pF (d:ad4) (a c:ao):Prop:=(Aj a=true->lu d a->c=a)/\∀f,a=.dM f->∃g,c=.dM g/\∀(e:Nat) (b:ao),f[e]?=some b->rT b=true->lu d b->g[e]?=some b
def pF.refl (a:t=d):pF f d t:=⟨λ_ _=>a,λc b=>⟨c,by rw[a,b],λ_ _ a _ _=>a⟩⟩
theorem pF.m8 {a:ad4} {h:Op} {c d:ao} (e:pF a c d) (g:m8 h a c=true):h2.m8 h a d=true:=by
 rcases m8.ok g with⟨r,p,k,l,i,b,f,j,n⟩|⟨i,b,f,j⟩
 ·obtain⟨q,m,o⟩:=e.2 k b;grind [h2.m8]
 rw[e.1 b f];exact g
theorem RP {ic:fM} {a:List ao} (k:h.op=.extract m b) (j:iV ic F e h some=some p) (c:F m=.dM L) (f:Y m=.dM a) (g:L[b]?=some d) (i:a[b]?=some d):iV ic Y P h some=some p:=by simp_all [jn,fl,Ce,al,k6,tz,qA,iV]
theorem RR {ic:fM} (a:vQ h.op=true) (c:iV ic F e h some=some p) (d:∀b∈h.op.operands,F b=Y b):iV ic Y P h some=some p:=by
 unfold vQ at a;split at a
 ·simp_all [jn,fl,al,k6,tz,qA,iV,Op.operands]
 grind
theorem Up (a:.tmp b∈h.op.operands):b∈h.looksAt D:=
 nw _ (List.mem_filterMap.2 ⟨.tmp b,by grind,rfl⟩)
theorem Uq (a:h.guard=some (l,I)) (c:(D[l]?).bind (·.dst)=some b):b∈h.looksAt D:=
 lw _ (by grind)
theorem O4 (l:∀j∈h.looksAt D,pF f (gt i.g j) (gt X.g j)) (a:ju D i h I):ju D X h I:=by
 unfold ju at*;cases c:h.guard with
 |none=>grind
 |some n=>
  obtain⟨m,p⟩:=n;rw[c] at a;simp only at a|-;cases d:(D[m]?).bind (·.dst) with
  |none=>grind
  |some k=>
   rw[d] at a;simp only at a|-;have e:=l k (Uq c d);split at a
   ·rename_i q b;rw[e.1 (by rw[b];rfl) (by rw[b];exact .inl (by simp[ao.ids])),b];exact a
   ·rename_i o b;rw[e.1 (by rw[b];rfl) (by rw[b];exact .inl (by simp[ao.ids])),b];exact a
   grind
theorem g7.congr (e:g7 ic D G C b i p) (l:∀c,D[b]?=some c->∀n∈c.looksAt D,pF (G b) (gt i.g n) (gt X.g n)) (v:∀c,D[b]?=some c->∀id,id∈G b\/id∈C b\/c.dst=some id->au i.h id=au X.h id) (ce:∀id f,1<=f->id<500000->id+1000000*f∈G b->au i.h id=au X.h id):g7 ic D G C b X p:=by
 obtain⟨c,w,e⟩:=e;have l:=l c w;have v:=v c w;refine⟨c,w,e.imp (λ⟨r,s,k⟩=>⟨O4 l r,?_⟩) (λ⟨r,s⟩=>⟨O4 l r,s⟩)⟩;obtain⟨a3,f2,a4,f4,f5,O⟩:=p8.ok k;have m:∀a∈c.op.operands,pF (G b) (aV i.g a) (aV X.g a):=by
  intro a d;cases a with
  |tmp n=>exact l n (Up d)
  |const ab=>exact .refl (by cases ab<;>rfl)
  |func a0=>exact .refl rfl
  |global P=>exact .refl rfl
 constructor
 ·by_cases R:∃a E,c.op=.extract a E
  ·obtain⟨a,E,T⟩:=R;have d:a∈c.op.operands:=(by grind [Op.operands]);rcases f2 a d with⟨I,F,x,f,j,q,y,bd,bl⟩|⟨j,_⟩
   ·rw[T] at j;cases j;obtain⟨cv,ax,c1⟩:=(m a d).2 x q;grind [RP]
   grind
  have z:∀a∈c.op.operands,Aj (aV i.g a)=true/\lu (G b) (aV i.g a)/\((∀id∈(aV i.g a).ids,id∈G b\/∃f,1<=f/\id<500000/\id+1000000*f∈G b)\/vQ c.op=true):=λa d=>by
   rcases f2 a d with⟨I,F,x,f,j,_⟩|⟨_,P⟩
   ·grind
   omega
  have u:∀a∈c.op.operands,aV i.g a=aV X.g a:=λa d=>((m a d).1 (z a d).1 (z a d).2.1).symm;by_cases ci:vQ c.op=true
  ·grind [RR]
  have V:∀a∈c.op.operands,∀id∈(aV i.g a).ids,au i.h id=au X.h id:=λa d id bB=>(by grind);refine RQ s u V (λN Q=>v N (.inr (.inr Q))) (λH A=>?_);rcases(f4 H A).2 with e|e
  ·grind
  obtain⟨id,o,J,an,ap,_⟩:=O _ e U;have:=(f4 H A).1;obtain⟨ad,Z,a,am,Y,ax,K,L,_,M⟩:=Er J;grind [List.mem_singleton,rN,ao.ids]
 unfold p8 at*;have:(c.op.operands.toList.all λa=>m8 c.op (G b) (aV X.g a))=true:=(by simp only[bp] at k;rw[fd];intro a d;exact(m a (by grind)).m8 (fd.1 k.1.1.1.2 a d));have bs:∀id o,qT (aV i.g) c=some (id,o)->qT (aV X.g) c=some (id,o):=λid o u=>by
  obtain⟨ad,Z,a,am,Y,ax,K,L,av,M⟩:=Er u;have B:a∈c.op.operands:=(by grind [rN]);have cs:aV X.g a=aV i.g a:=by
   rcases f2 a B with⟨I,F,x,f,j,_⟩|⟨_,q,y,_⟩
   ·grind
   exact(m a B).1 q y
  grind [qT]
 have co:GZ (C b) (aV X.g) c=true:=by
  simp only[bp] at k;have t:=k.2.2;unfold GZ at t|-;rw[fd] at t|-;intro W S;have:=t W S;rw[fK] at this|-;refine this.imp (λe=>e) (λe=>?_);split at e
  case h_2=>cases e
  grind
 grind
theorem g7.B9 (g:g7 ic D G C b i p) {r:Oper} (F:D[b]?=some r):(∀f c,p.d=some (f,c)->r.dst=some f)/\(∀id∈p.S,id<500000/\(id∈C b/\(id+500000∈C b\/kk p.keep (.ref id [])=true)\/id+1500000∈C b))/\(∀k∈p.put,k.1<500000/\(k.1∈C b\/k.1+1500000∈C b))/\(∀f c,p.d=some (f,c)->lu (G b) c)/\(∀id,id<500000->id+1500000∈C b->au (p.app i).h id=au i.h id)/\(∀id a e,id∈p.S->id<500000->id+1000000*a+500000∈C b->1<=a->pO e=some (id,a)->(∀q∈e.ids,q=id\/q∉p.S)->iH p.S p.keep e=true):=by
 obtain⟨L,n,g⟩:=g;rw[F] at n;cases n;rcases g with⟨_,x,g⟩|⟨_,f,A,_,rfl⟩
 ·obtain⟨u,f2,v,f4,f5,w⟩:=p8.ok g;refine⟨u,v,f4,f5,λid B m=>?_,λid a e l B m K z E=>?_⟩
  ·grind [bu.qU,JV]
  obtain⟨o,M,s,H,I,J⟩:=w _ m U;obtain rfl:o=id:=U;obtain⟨y,_⟩:=JV s x;rw[y];refine XF ?_ z E;have:(o+1000000*a+500000)/1000000=a:=U;grind
 refine⟨λt c j=>?_,by simp[wz],by simp[wz],λt c j=>?_,λid _ _=>rfl,λid a e l=>by cases l⟩
 ·cases j;exact A
 cases j;exact .inl (by simp[ao.ids])
structure w1 (f S:ad4) (keep:List (Nat×List a5)):Prop where
 a:∀id∈S,id∉f
 b:∀id∈S,id+500000∈f->kk keep (.ref id [])=true
 c:∀id∈S,∀c v,1<=c->id<500000->id+1000000*c∈f->pO v=some (id,c)->(∀j∈v.ids,j=id\/j∉S)->iH S keep v=true
theorem Cz (b:ad4) (c:List (Nat×List a5)) (a:ao):dO b c a=.dead\/dO b c a=a:=by grind [iH,dO]
theorem F1 (b:rT (dO f g d)=true):dO f g d=d:=by
 rcases Cz f g d with a|a
 ·rw[a] at b;cases b
 omega
theorem FZ (a:∀id∈d.ids,id∉f):dO f g d=d:=by grind [fG,List.any_eq_false,DP,id,ao.ej]
theorem TC (a:∀id∈d.ids,id∉f):eu f g d=d:=by grind [fG,List.any_eq_false,aae,id,ao.ej]
theorem K1 (e:lu x d) (i:w1 x f g):dO f g d=d:=by
 rcases e with e|⟨id,rfl,e⟩|⟨id,o,k,p,q,l⟩
 ·exact FZ λid s h=>i.a id h (e id s)
 ·by_cases h:id∈f
  ·unfold dO;rw[show iH f g (.ref id [])=kk g (.ref id []) from rfl,i.b id h e];simp
  grind [FZ,List.mem_singleton,ao.ids]
 by_cases h:id∈f
 ·unfold dO;rw[i.c id h o d (Rf k) p q k (λn t=>(l n t).imp (λe=>e) (λe h=>i.a n h e))];simp
 exact FZ λm r u=>by
  rcases l m r with j|j
  ·grind
  exact i.a m u j
theorem yD (b:lu x d) (e:w1 x f g):eu f g d=d:=by
 cases d with
 |dM k=>
  rcases b with b|⟨id,c,_⟩|⟨id,j,c,_⟩
  ·exact TC λid h i=>e.a id i (b id h)
  ·cases c
  cases c
 |_=>exact K1 b e
theorem K0 (a:ad4) (d:List (Nat×List a5)) (b:ad4) (e:List (Nat×List a5)) (c:ao):dO a d (dO b e c)=dO b e (dO a d c):=by grind [Cz]
theorem KY (b:∀a,d≠.dM a):eu f g d=dO f g d:=by
 cases d with
 |dM a=>grind
 |_=>rfl
theorem Cy (b:ad4) (d:List (Nat×List a5)) (c:ad4) (e:List (Nat×List a5)) (a:ao):eu b d (eu c e a)=eu c e (eu b d a):=by
 by_cases g:∃f,a=.dM f
 ·obtain⟨f,rfl⟩:=g;simp_all [congrArg,h3,K0,sy,eu]
 grind [Cz,KY,K0]
theorem TE (l d:ad4) (e:List (Nat×List a5)) (b:ao):pF l (eu d e b) b:=by
 by_cases j:∃a,b=.dM a
 ·obtain⟨a,rfl⟩:=j;refine⟨λc _=>?_,λr m=>⟨a,rfl,λq o p i _=>?_⟩⟩
  ·simp only[eu] at c|-;have c:∀g∈a.map (dO d e),rT g=true:=fd.1 c;congr 1;rw[h3 (λg n=>F1 (c _ (de.2 ⟨g,n,rfl⟩))),List.map_id']
  simp only[eu,ao.dM.injEq] at m;grind [F1,Option.map_eq_some_iff]
 have i:∀a,b≠.dM a:=λa f=>j ⟨a,f⟩;rw[KY i];have h:∀a,dO d e b≠.dM a:=λa f=>(by grind [Cz]);refine⟨λc _=>?_,λa f=>absurd f (h a)⟩;have:rT (dO d e b)=true:=by
  generalize dO d e b=k at c h;cases k with
  |dM a=>grind
  |_=>exact c
 grind [F1]
theorem TF (a:ao) (d:w1 x f g):pF x a (eu f g a):=by refine⟨λ_ c=>yD c d,λk b=>?_⟩;subst b;refine⟨_,rfl,λj e h _ i=>?_⟩;grind [K1]
def IN (e:∀a c,p.d=some (a,c)->a≠b):gt (p.app i).g b=eu p.S p.keep (gt i.g b):=by
 rw[bu.sL];cases f:p.d with
 |none=>rfl
 |some h=>obtain⟨a,c⟩:=h;simp only;rw[ah (e a c f)]
def T0 {c:List (Nat×a)} {id:Nat} (d:∀b∈c,b.1≠id):au c id=none:=by
 induction c with
 |nil=>rfl
 |cons b c f=>
  obtain⟨g,h⟩:=b;rw[b1,ah (d (g,h) ac),f (λb e=>d b (by simp[e]))]
def IP {id:Nat} (a:id∉p.S) (b:∀c∈p.put,c.1≠id):au (p.app i).h id=au i.h id:=by rw[bu.qU,ah a,T0 b];rfl
def rk (b c:ad4):Bool:=b.all λa=>!(du a c)
theorem rk.ok (b:rk f x=true):∀a∈f,a∉x:=λa c d=>by have:=fd.1 b a c;rw[fG.2 d] at this;cases this
def dl (b:Oper):ad4:=match b.dst with
 |some a=>[a]
 |none=>[]
def v7 (a:h.dst=some b):b∈dl h:=by unfold dl;rw[a];simp
def rm (b c:ad4):Bool:=b.all λa=>Nat.ble 1000000 a||!(du a c)
theorem rm.ok (a:rm f x=true):∀b∈f,b<1000000->b∉x:=λb c e d=>by
 have:=fd.1 a b c;rw[fG.2 d,fK] at this;rcases this with a|a
 ·have:=e4 a;omega
 cases a
def qb (e d f b:ad4):Bool:=(b.all λa=>Nat.blt a 1000000||(!(du (a %1000000-500000) e)&&(!(du (a %1000000-500000) d)&&!(du (a %1000000-500000) f))))&&d.all λc=>Nat.blt c 1000000||(!(du (c %1000000) b)&&(!(du (c %1000000+1500000) b)||du (c+500000) b))
theorem qb.ok {d i:ad4} (a:qb d x i f=true):(∀id,id<500000->id+1500000∈f->id∉d/\id∉x/\id∉i)/\∀id b,1<=b->id<500000->id+1000000*b∈x->id∉f/\(id+1500000∈f->id+1000000*b+500000∈f):=by
 unfold qb at a;rw[bp] at a;have e:∀{g:Nat} {h:ad4},(!(du g h))=true->g∉h:=λ{g h} a c=>(by rw[fG.2 c] at a;cases a);constructor
 ·intro id k c;have:=fd.1 a.1 _ c;rw[fK] at this;rcases this with a|a
  ·have:id+1500000<1000000:=e4 a;omega
  rw[(U:(id+1500000) %1000000-500000=id)] at a;simp only[bp] at a;exact⟨e a.1,e a.2.1,e a.2.2⟩
 intro id b l k c;have:=fd.1 a.2 _ c;rw[fK] at this;rcases this with a|a
 ·have:id+1000000*b<1000000:=e4 a;omega
 rw[(U:(id+1000000*b) %1000000=id)] at a;simp only[bp,fK] at a;refine⟨e a.1,λj=>?_⟩;rcases a.2 with a|a
 ·exact absurd j (e a)
 exact fG.1 a
def sW (D:Array Oper) (G C:Nat->ad4) (a b:Nat):Bool:=
 match D[a]?,D[b]? with
 |some d,some c=>d.apart D c&&rm (C b) (dl d++(G a++C a))&&rm (C a) (dl c++G b)&&(qb (dl d) (G a) (C a) (C b)&&qb (dl c) (G b) (C b) (C a))
 |_,_=>false
def g7.vW (a:g7 ic D G C b i p) {id:Nat} (m:500000<=id):au (p.app i).h id=au i.h id:=by obtain⟨k,c,j⟩:=a;have a:g7 ic D G C b i p:=⟨k,c,j⟩;obtain⟨_,d,e,_⟩:=a.B9 c;exact IP (λf=>by have:=(d id f).1;omega) (λl g p=>by have:=(e l g).1;omega)
def g7.rJ (d:g7 ic D G C b i p) {id:Nat} (e:id∉C b):au (p.app i).h id=au i.h id:=by
 obtain⟨o,f,n⟩:=d;have d:g7 ic D G C b i p:=⟨o,f,n⟩;obtain⟨_,g,j,_,k,_⟩:=d.B9 f;by_cases c:id<500000/\id+1500000∈C b
 ·exact k id c.1 c.2
 refine IP (λl=>?_) (λq m p=>?_)
 ·obtain⟨ax,a⟩:=g id l;rcases a with a|a
  ·exact e a.1
  exact c ⟨ax,a⟩
 subst p;obtain⟨ax,a⟩:=j q m;rcases a with a|a
 ·exact e a
 exact c ⟨ax,a⟩
theorem g7.swap {e:bu} (m:sW D G C l b=true) (o:g7 ic D G C l i e) (B:g7 ic D G C b (e.app i) p):g7 ic D G C b i p/\g7 ic D G C l (p.app i) e/\jh (p.app (e.app i)) (e.app (p.app i)):=by
 unfold sW at m;split at m
 case h_2=>cases m
 rename_i an am ab Z;simp only[bp] at m;obtain⟨⟨⟨ci,J⟩,K⟩,cv,c1⟩:=m;have J:=rm.ok J;have K:=rm.ok K;obtain⟨bB,V⟩:=qb.ok cv;obtain⟨ce,W⟩:=qb.ok c1;obtain⟨a4,bd,bl⟩:=Oper.apart_spec ci;obtain⟨a0,T,d7,d8,d9,a3⟩:=o.B9 ab;obtain⟨i1,N,d0,d1,d2,ad⟩:=B.B9 Z;have d4:∀q∈am.looksAt D,gt (e.app i).g q=eu e.S e.keep (gt i.g q):=λq A=>IN λj w z y=>a4 j (a0 j w z) (y▸A);have d3:∀q∈an.looksAt D,gt (p.app i).g q=eu p.S p.keep (gt i.g q):=λq A=>IN λj w z y=>bl j (i1 j w z) (y▸A);have L:∀j H t I,p.d=some (j,H)->e.d=some (t,I)->j≠t:=λj H t I z co y=>bd t (a0 t I co) (y▸i1 j H z);have E:∀id,id<1000000->id∈G l\/id∈C l\/an.dst=some id->id∉C b:=λid h c s=>J id s h (by
  rcases c with c|c|c
  ·simp[c]
  ·simp[c]
  simp[v7 c])
 have av:∀id,id<1000000->id∈G b\/am.dst=some id->id∉C l:=λid h c s=>K id s h (by
  rcases c with c|c
  ·simp[c]
  simp[v7 c])
 have ds:∀id,id<1000000->id∈C b->id∉C l:=λid h c s=>E id h (.inr (.inl s)) c;have d6:w1 (G b) e.S e.keep:=by
  refine⟨λid k f=>?_,λid k f=>?_,λid k r R m n f M x=>?_⟩
  ·obtain⟨ax,a⟩:=T id k;rcases a with a|a
   ·exact av id U (.inl f) a.1
   exact(ce id ax a).2.1 f
  ·obtain⟨ax,a⟩:=T id k;rcases a with a|a
   ·exact a.2.resolve_left (av _ U (.inl f))
   exact a3 id 1 (.ref id []) k ax (by rw[(U:id+1000000*1+500000=id+1500000)];exact a) (a2 _) rfl (λc2 x=>.inl (by simpa[ao.ids] using x))
  obtain⟨_,a⟩:=T id k;obtain⟨ap,Q⟩:=W id r m n f;rcases a with a|a
  ·exact absurd a.1 ap
  exact a3 id r R k n (Q a) m M x
 have d5:w1 (G l) p.S p.keep:=by
  refine⟨λid k f=>?_,λid k f=>?_,λid k r R m n f M x=>?_⟩
  ·obtain⟨ax,a⟩:=N id k;rcases a with a|a
   ·exact E id U (.inl f) a.1
   exact(bB id ax a).2.1 f
  ·obtain⟨ax,a⟩:=N id k;rcases a with a|a
   ·exact a.2.resolve_left (E _ U (.inl f))
   exact ad id 1 (.ref id []) k ax (by rw[(U:id+1000000*1+500000=id+1500000)];exact a) (a2 _) rfl (λc2 x=>.inl (by grind [ao.ids]))
  obtain⟨_,a⟩:=N id k;obtain⟨ap,Q⟩:=V id r m n f;rcases a with a|a
  ·grind
  exact ad id r R k n (Q a) m M x
 have v:g7 ic D G C b i p:=by
  refine B.congr (λO u q A=>?_) (λO u id n=>?_) (λid r m n f=>?_)
  ·grind [TE]
  ·rw[Z] at u;cases u;rcases bg id 500000 with h|h
   ·refine o.rJ ?_;rcases n with c|c|c
    ·grind
    ·grind
    grind
   exact o.vW h
  exact o.rJ (W id r m n f).1
 have F:g7 ic D G C l (p.app i) e:=by
  refine o.congr (λO u q A=>?_) (λO u id n=>?_) (λid r m n f=>?_)
  ·grind [TF]
  ·rw[ab] at u;cases u;rcases bg id 500000 with h|h
   ·exact(v.rJ (E id U n)).symm
   exact(v.vW h).symm
  exact(v.rJ (V id r m n f).1).symm
 refine⟨v,F,?_,λid=>?_⟩
 ·intro q;rw[bu.sL p,bu.sL e (p.app i),bu.sL e i,bu.sL p i];cases cs:e.d with
  |none=>
   cases X:p.d with
   |none=>grind [Cy]
   |some P=>
    obtain⟨j,w⟩:=P;simp only;split
    ·grind [yD]
    grind [Cy]
  |some dl=>
   obtain⟨t,bs⟩:=dl;cases X:p.d with
   |none=>
    simp only;split
    ·grind [yD]
    grind [Cy]
   |some P=>
    obtain⟨j,w⟩:=P;have L:j≠t:=L j w t bs X cs;simp only;by_cases o:j=q
    ·subst o;rw[ai rfl,ah (Ne.symm L),ai rfl];grind [yD]
    rw[ah o,ah o];split
    ·grind [yD]
    grind [Cy]
 rcases bg id 500000 with h|h
 ·by_cases s:id∈C b
  ·have Y:=ds id U s;rw[F.rJ Y,bu.qU p,bu.qU p,o.rJ Y]
  rw[B.rJ s,bu.qU e,bu.qU e,v.rJ s]
 rw[B.vW h,o.vW h,F.vW h,v.vW h]
def g7.seq (a:jh i X) (c:g7 ic D G C b i p):g7 ic D G C b X p:=
 c.congr (λ_ _ d _=>.refl (a.g d).symm) (λ_ _ id _=>a.h id) (λid _ _ _ _=>a.h id)
def mL.seq:∀{c:ad4} {d e f:aQ},jh d e->mL ic D G C c d f->mL ic D G C c e f
 |[],_,_,_,a,h=>a.symm.trans h
 |_::_,_,_,_,a,⟨b,g,i⟩=>⟨b,g.seq a,mL.seq (a.app b) i⟩
theorem mL.front {g:Nat} {h:ad4}:∀{b:ad4} {a d:aQ},(∀x∈b,sW D G C x g=true)->mL ic D G C (b++g::h) a d->∃c,g7 ic D G C g a c/\mL ic D G C (b++h) (c.app a) d
 |[],a,d,_,⟨c,e,f⟩=>⟨c,e,f⟩
 |x::b,a,d,i,⟨k,e,f⟩=>by obtain⟨j,o,p⟩:=mL.front (λq r=>i q (by grind)) f;obtain⟨l,m,n⟩:=g7.swap (i x ac) e o;exact⟨j,l,k,m,p.seq n⟩
end
end
section
section
variable {ic:fM} {F:Array Oper} {g9 gJ:Nat->ad4}
def yy {E:Type} {B:aQ->Option E} {D:E}:∀{z:ad4} {b:aQ},rB ic F g9 gJ z b B=some D->∃c,mL ic F g9 gJ z b c/\B c=some D
 |[],b,a=>⟨b,jh.refl b,a⟩
 |i::z,b,a=>by
  simp only[rB] at a;split at a
  ·cases a
  rename_i s r;split at a
  ·rename_i o;obtain⟨f,v,w,x⟩:=JX a;obtain⟨c,k,l⟩:=yy x;exact⟨c,⟨f,⟨s,r,.inl ⟨by unfold ju;rw[o],v,w⟩⟩,k⟩,l⟩
  rename_i J A o;split at a
  case h_2=>cases a
  rename_i q e y C;split at a
  case h_3=>cases a
  case h_2=>
   rename_i K p;cases j:fX ic.n ic.pin e with
   |false=>rw[j] at a;cases a
   |true=>
   rw[j] at a;obtain⟨c,k,l⟩:=yy a;refine⟨c,⟨wz e,⟨s,r,.inr ⟨?_,e,C,j,rfl⟩⟩,k⟩,l⟩;unfold ju;rw[o];simp only[y,p]
  rename_i d p;cases j:fX ic.n ic.pin e with
  |false=>rw[j] at a;cases a
  |true=>
  rw[j] at a;simp only[cond_true] at a;have t:∀u,d=u->jh ⟨(q,.val .bool u)::b.g,b.h⟩ b:=λu m=>⟨λI=>by
   show gt ((q,_)::b.g) I=_;rw[hJ];split
   ·rename_i f;rw[<-f,p,m]
   rfl,λ_=>rfl⟩
  split at a
  ·rename_i m;obtain rfl:d=A:=(by simpa using m);obtain⟨f,v,w,x⟩:=JX a;obtain⟨c,k,l⟩:=yy x;have G:g7 ic F g9 gJ i ⟨(q,.val .bool d)::b.g,b.h⟩ f:=by
    refine⟨s,r,.inl ⟨?_,v,w⟩⟩;unfold ju;rw[o];simp only[y,(t d rfl).g q,p];simp
   exact⟨c,⟨f,G.seq (t d rfl),k.seq ((t d rfl).app f)⟩,l⟩
  rename_i m;have H:d=!A:=by cases d<;>cases A<;>first|rfl|cases m
  obtain⟨c,k,l⟩:=yy a;refine⟨c,⟨wz e,⟨s,r,.inr ⟨?_,e,C,j,rfl⟩⟩,k.seq ((t _ H).app (wz e))⟩,l⟩;unfold ju;rw[o];simp only[y,p];exact m
structure kA where
 i:Nat
 d:ad4
 au:ad4
 ps:ad4
 g9:ad4
 gJ:ad4
def rp:ad4->ad4->Bool
 |[],[]=>true
 |a::c,b::d=>Nat.beq a b&&rp c d
 |_,_=>false
def oR:∀{c d:ad4},rp c d=true->c=d
 |[],[],_=>rfl
 |a::c,e::d,b=>by simp only[rp,bp] at b;rw[eF b.1,oR b.2]
 |[],_::_,b=>by cases b
 |_::_,[],b=>by cases b
def o9 (F:Array Oper) (g9 gJ:Nat->ad4) (a:kA):Bool:=match F[a.i]? with
 |some b=>rp (dl b) a.d&&rp (b.looksAt F) a.au&&rp (o4 F a.i) a.ps&&rp (g9 a.i) a.g9&&rp (gJ a.i) a.gJ
 |none=>false
def EM (a b:kA):Bool:=rk a.d b.au&&rk a.d b.d&&rk b.d a.au&&rm b.gJ (a.d++(a.g9++a.gJ))&&rm a.gJ (b.d++b.g9)&&(qb a.d a.g9 a.gJ b.gJ&&qb b.d b.g9 b.gJ a.gJ)
def Rp {l j:kA} (b:o9 F g9 gJ l=true) (a:o9 F g9 gJ j=true) (d:EM l j=true):sW F g9 gJ l.i j.i=true:=by
 unfold o9 at b a;split at b
 case h_2=>cases b
 rename_i y s;split at a
 case h_2=>cases a
 rename_i x r;simp only[bp] at b a;obtain⟨⟨⟨⟨z,A⟩,E⟩,B⟩,C⟩:=b;obtain⟨⟨⟨⟨i1,t⟩,D⟩,u⟩,v⟩:=a;unfold EM at d;rw[<-oR z,<-oR A,<-oR B,<-oR C,<-oR i1,<-oR t,<-oR u,<-oR v] at d;simp only[bp] at d;obtain⟨⟨⟨⟨⟨f,g⟩,h⟩,n⟩,o⟩,p,q⟩:=d;unfold sW;simp only[s,r,n,o,p,q,Bool.and_true];have f:=rk.ok f;have g:=rk.ok g;have h:=rk.ok h;unfold Oper.apart;rw[bp];constructor
 ·cases e:y.dst with
  |none=>rfl
  |some c=>
   have k:=f c (v7 e);have w:=g c (v7 e);simp only[bp,wK];refine⟨?_,?_⟩
   ·rw[<-Bool.not_eq_true,List.contains_iff_mem];exact k
   rw[bne_iff_ne];intro m;exact w (v7 m)
 cases e:x.dst with
 |none=>rfl
 |some c=>
  have k:=h c (v7 e);simp only[wK];rw[<-Bool.not_eq_true,List.contains_iff_mem];exact k
def kb (a b:Nat):Bool:=Nat.beq (Nat.land (Nat.shiftRight a b) 1) 1
def Ek (a b:Nat):Nat:=Nat.lor a (Nat.shiftLeft 1 b)
def u6:kb b l=true↔b.testBit l=true:=by
 unfold kb;rw[Nat.testBit_eq_decide_div_mod_eq];show Nat.beq ((b>>>l)&&&1) 1=true↔_;rw[Nat.shiftRight_eq_div_pow,Nat.and_one_is_mod];constructor
 ·intro a;exact decide_eq_true (eF a)
 intro a;rw[of_decide_eq_true a];rfl
def Jb (a:kb (Nat.lor l W) b=true):kb l b=true\/kb W b=true:=by rw[u6] at a|-;rw[u6];have:(l|||W).testBit b=true:=a;rw[Nat.testBit_or] at this;simpa using this
def Ja (a:kb (Ek W l) b=true):kb W b=true\/b=l:=by
 rcases Jb a with a|a
 ·exact .inl a
 right;rw[u6] at a;have:(1<<<l).testBit b=true:=a;rw[Nat.shiftLeft_eq,hD,zZ] at this;have:=of_decide_eq_true this;omega
def Ap (a:kb 0 b=true):False:=by rw[u6] at a;simp at a
def w6 (a:ad6):ad4->Nat
 |[]=>0
 |p::b=>Nat.lor (Ek ((h2.au a p).getD 0) p) (w6 a b)
def IG {e:ad6}:∀{d:ad4} {b:Nat},kb (w6 e d) b=true->∃p∈d,b=p\/∃c,h2.au e p=some c/\kb c b=true
 |[],_,a=>(Ap a).elim
 |p::d,b,a=>by
  rcases Jb a with a|a
  ·refine⟨p,ac,?_⟩;rcases Ja a with a|a
   ·cases f:h2.au e p with
    |none=>rw[f] at a;exact(Ap a).elim
    |some c=>rw[f] at a;exact .inr ⟨c,rfl,a⟩
   exact .inl a
  obtain⟨i,h,g⟩:=IG a;exact⟨i,by simp[h],g⟩
def Av (c:Nat):Nat->List kA->ad6->List kA->Bool
 |_,_,_,[]=>true
 |eE,d,b,a::f=>
  a.ps.all (λg=>kb eE g)&&(d.all λe=>kb (w6 b a.ps) e.i||EM e a)&&!(kb eE a.i)&&Nat.blt a.i c&&Av c (Ek eE a.i) (a::d) ((a.i,w6 b a.ps)::b) f
def jQ (a:List kA):ad4:=a.map (·.i)
def sT (F:Array Oper) (g9 gJ:Nat->ad4) (a:List kA):Bool:=a.all (o9 F g9 gJ)&&Av F.size 0 [] [] a&&((List.range F.size).all λb=>du b (jQ a))&&Nat.ble a.length F.size
def zN (F:Array Oper) (a:Nat->Prop):Prop:=∀b,a b->∀c∈o4 F b,a c
def o9.ps {b:kA} (a:o9 F g9 gJ b=true):o4 F b.i=b.ps:=by
 unfold o9 at a;split at a
 case h_2=>cases a
 simp only[bp] at a;exact oR a.1.1.2
def EF:∀{t m:List kA} {o:Nat} {v:ad6},Av F.size o m v t=true->(∀r∈t,o9 F g9 gJ r=true)->(∀r∈m,o9 F g9 gJ r=true)->(∀l,kb o l=true->l∈jQ m)->(∀l∈jQ m,kb o l=true)->(∀e u,h2.au v e=some u->∀c,zN F c->c e->∀b,kb u b=true->c b)->∀g h p,jQ t=g++h::p->(∀e∈o4 F h,e∈jQ m\/e∈g)/\(∀c,zN F c->(∀e∈o4 F h,c e)->∀b,(b∈jQ m\/b∈g)->¬c b->sW F g9 gJ b h=true)/\h∉jQ m/\h∉g/\h<F.size
 |[],_,_,_,w,_,_,_,_,A,g,h,p,n=>by cases g<;>cases n
 |r::t,m,o,v,w,E,G,d,C,A,g,h,p,n=>by
  simp only[Av,bp,fd,wK] at w;obtain⟨⟨⟨⟨P,Q⟩,q⟩,R⟩,S⟩:=w;have z:=E r ac;have y:=o9.ps z;have q:r.i∉jQ m:=λk=>(by rw[C _ k] at q;cases q);have H:∀c,zN F c->(∀e∈o4 F r.i,c e)->∀b,kb (w6 v r.ps) b=true->c b:=by
   intro c j f b a;obtain⟨e,D,rfl|⟨U,T,a⟩⟩:=IG a
   ·exact f _ (y▸D)
   exact A e U T c j (f e (y▸D)) b a
  cases g with
  |nil=>
   cases n;refine⟨λe f=>.inl (d _ (P e (y▸f))),λc j f b a x=>?_,q,ac,e4 R⟩;rcases a with a|a
   ·obtain⟨J,I,rfl⟩:=de.1 a;have:=Q J I;rcases fK _ _▸this with d|d
    ·exact absurd (H c j f _ d) x
    exact Rp (G J I) z d
   cases a
  |cons V g=>
   simp only[jQ,fr,jb,gu] at n;obtain⟨rfl,n⟩:=n;obtain⟨L,M,B,N,O⟩:=EF S (λb a=>E b (by simp[a])) (λb a=>by
    rcases dx.1 a with rfl|a
    ·exact z
    ·exact G b a) (λl k=>by
    rcases Ja k with k|rfl
    ·exact fk _ (d l k)
    ·exact jB ..) (λl k=>by
    rw[u6];show(o|||(1<<<r.i)).testBit l=true;rw[Nat.testBit_or,fK];rcases dx.1 k with rfl|k
    ·right;rw[Nat.shiftLeft_eq,hD,zZ];simp
    ·left;exact u6.1 (C l k)) (λe u s c j f b a=>by
    rw[b1] at s;split at s
    ·rename_i K;cases s;subst K;exact H c j (j _ f) b a
    exact A e u s c j f b a) g h p n
   refine⟨λe f=>?_,λc j f b a x=>M c j f b ?_ x,λd=>B (fk _ d),λd=>?_,O⟩
   ·rcases L e f with d|d
    ·rcases dx.1 d with rfl|d
     ·exact .inr ac
     exact .inl d
    exact .inr (by simp[d])
   ·rcases a with a|a
    ·exact .inl (fk _ a)
    rcases dx.1 a with rfl|a
    ·exact .inl (jB ..)
    exact .inr a
   rcases dx.1 d with rfl|d
   ·exact B (jB ..)
   exact N d
variable {E:eh} {C:dD}
def g7.wp (k:ic.ae E C) (e:g7 ic F g9 gJ b i p) {c:Act} (j:ff C i c.tmps v) {next:Act->World->Prop} (l:∀a d,a.defers=c.defers->ff C (p.app i) a.tmps d->next a d):wpOp E.P F o b next c v:=by
 obtain⟨z,s,e⟩:=e;obtain⟨m,w,n,f⟩:=id j;unfold wpOp;simp only[s];rcases e with⟨h,q,_⟩|⟨h,x,g,u,rfl⟩
 ·rw[h.ok f,ai rfl];refine .inl (JW k q c v j _ _ ?_);rintro A a d ⟨y,r,rfl⟩ g t;cases r;exact l a d g t
 rw[h.ok f,ah ac,g];exact l _ v rfl ⟨m,w,n,f.put (fX.ok k u) (.cv undef)⟩
def left (a:ad4) (c:Array Bool):ad4:=a.filter λb=>!c.getD b true
def Ld {d:Array Bool} {e:ad4} (g:left f d=x++b::e) (h:b∉x) (i:b∉e) (j:b<d.size):left f (d.setIfInBounds b true)=x++e:=by
 have:left f (d.setIfInBounds b true)=(left f d).filter λc=>!(c==b):=by
  unfold left;rw[List.filter_filter];refine sv λc _=>?_;by_cases a:b=c
  ·subst a;have:(d.setIfInBounds b true).getD b true=true:=(by simp[Array.getD,j]);rw[this];simp
  rw[getD_set_ne true a];have:(c==b)=false:=(by simp;omega);rw[this];simp
 rw[this,g,jc,pv ac];congr 1
 ·exact mH.2 λc a=>by simp;rintro rfl;exact h a
 exact mH.2 λc a=>by simp;rintro rfl;exact i a
def G5 (f:F[b]?=some h):l∈o4 F b↔∃a∈h.after,Region.binds .any a=true/\a.on=l:=by
 unfold o4;rw[f];simp only[de,eY,Array.mem_toList_iff];constructor
 ·rintro⟨a,⟨c,d⟩,e⟩;exact⟨a,c,d,e⟩
 rintro⟨a,c,d,e⟩;exact⟨a,⟨c,d⟩,e⟩
def Qg (ek:ic.ae E C) {Z:List kA} (d6:f=jQ Z) (B:sT F g9 gJ Z=true) {t:aQ} {ds:List Deferred} (ap:∀e j,e.defers=ds->ff C t e.tmps j->o .normal e j):∀(y:Nat) (a:Array Bool) (e:Act) (j:World) (K:aQ),a.size=F.size->(left f a).length<=y->zN F (λd=>a.getD d true=true/\d<F.size)->mL ic F g9 gJ (left f a) K t->ff C K e.tmps j->e.defers=ds->wpAny E.P .any F o y a e j:=by
 unfold sT at B;simp only[bp,fd,fe] at B;obtain⟨⟨⟨ex,B⟩,av⟩,_⟩:=B;have L:=EF B ex ac (λd a3=>(Ap a3).elim) (by simp[jQ]) (λQ f1 b=>by cases b);rw[<-d6] at L av;have Y:∀i,i<F.size->i∈f:=λi G=>fG.1 (av i G);have d2:∀{a:Array Bool} {d:Nat},a.size=F.size->d<F.size->a.getD d true=true->a.getD d false=true:=(by intro a d g a3 b;have:d<a.size:=U;simpa[Array.getD,this] using b);have ce:∀{a:Array Bool} {i:Nat},a.size=F.size->i∈Region.ready .any F a->i<F.size/\a.getD i true=false/\∃h,F[i]?=some h/\∀c∈h.after,Region.binds .any c=true->a.getD c.on false=true:=(by intro a i g G;obtain⟨u,h,l,n⟩:=mem_ready.1 G;exact⟨(nm.1 l).1,u,h,l,n⟩);have first:∀{a:Array Bool} {i:Nat} {S:ad4},a.size=F.size->left f a=i::S->i∈Region.ready .any F a:=by
  intro a i S g H;have J:i∈left f a:=(by rw[H];simp);have ed:i∈f:=(eY.1 J).1;have fp:a.getD i true=false:=(by simpa using(eY.1 J).2);obtain⟨k,s,p⟩:=wT ed;obtain⟨dl,_,_,z,d1⟩:=L k i s p;obtain⟨h,l⟩:∃h,F[i]?=some h:=⟨_,wH d1⟩;refine mem_ready.2 ⟨fp,h,l,λc q D=>?_⟩;have w:c.on∈o4 F i:=(G5 l).2 ⟨c,q,D,rfl⟩;have am:c.on∈k:=by
   rcases dl _ w with b|b
   ·cases b
   exact b
  have eq:∀m∈k,a.getD m true=true:=by
   intro m x;cases fs:a.getD m true with
   |true=>rfl
   |false=>
    obtain⟨R,co,an⟩:=wT x;have:left f a=left R a++m::(left co a++left (i::s) a):=(by show List.filter _ f=_;rw[p,an];simp only[left,jc,jd,fs,mG,jb];rfl);rw[H] at this;cases T:left R a with
    |nil=>rw[T] at this;cases this;exact absurd x z
    |cons f2 fT=>
     rw[T] at this;cases this;have:i∈left R a:=(by rw[T];simp);exact absurd (by rw[an];exact nw _ (eY.1 this).1) z
  have I:c.on<F.size:=(by have:c.on∈f:=(by rw[p];exact nw _ am);obtain⟨ci,cs,d3⟩:=wT this;exact(L ci c.on cs d3).2.2.2.2);exact d2 g I (eq _ am)
 intro y
 induction y with
 |zero=>
  intro a e j K g W V r M N;have bl:left f a=[]:=D4.1 U;rw[bl] at r;refine⟨?_,ap e j N (M.seq r)⟩;cases X:Region.ready .any F a with
  |nil=>rfl
  |cons i fT=>
   obtain⟨u,n,_⟩:=ce g (i:=i) (by rw[X];simp);have:i∈left f a:=eY.2 ⟨Y i u,by rw[n];rfl⟩;rw[bl] at this;cases this
 |succ y fz=>
  intro a e j K g W V r M N;constructor
  ·intro X;cases H:left f a with
   |nil=>rw[H] at r;exact ap e j N (M.seq r)
   |cons i S=>
    have:=first g H
    rw[X] at this;cases this
  intro i G;obtain⟨u,n,h,l,ad⟩:=ce g G;have J:i∈left f a:=eY.2 ⟨Y i u,by rw[n];rfl⟩;obtain⟨k,s,p⟩:=wT (Y i u);obtain⟨_,d0,_,z,_⟩:=L k i s p;have a0:i∉s:=(by intro J;obtain⟨cv,c1,d5⟩:=wT J;have:=(L (k++i::cv) i c1 (by rw[p,d5];simp)).2.2.2.1;exact this ac);have O:left f a=left k a++i::left s a:=(by show List.filter _ f=_;rw[p];simp only[left,jc,jd,n];rfl);have d8:∀m∈left k a,sW F g9 gJ m i=true:=by
   intro m x;obtain⟨ft,bB⟩:=eY.1 x;refine d0 _ V (λQ w=>?_) m (.inr ft) (λx=>by rw[x.1] at bB;cases bB);obtain⟨c,q,D,rfl⟩:=(G5 l).1 w;have A:=ad c q D;have I:c.on<a.size:=by
    cases bg c.on a.size with
    |inl b=>exact b
    |inr b=>simp[Array.getD,Nat.not_lt.2 b] at A
   refine⟨?_,U⟩;simpa[Array.getD,I] using A
  rw[O] at r;obtain⟨c,q,fn⟩:=mL.front d8 r;refine q.wp ek M (λc2 f0 d9 d7=>fz _ c2 f0 (c.app K) (by simp[g]) ?_ ?_ ?_ d7 (d9.trans N))
  ·rw[Ld O (λb=>z (eY.1 b).1) (λb=>a0 (eY.1 b).1) U];rw[O] at W;simp at W|-;omega
  ·intro d ⟨a4,el⟩ Q w;by_cases bd:i=d
   ·subst bd;obtain⟨c,q,D,rfl⟩:=(G5 l).1 w;have A:=ad c q D;have I:c.on<a.size:=by
     cases bg c.on a.size with
     |inl b=>exact b
     |inr b=>simp[Array.getD,Nat.not_lt.2 b] at A
    have v:=getD_set_true (i:=i) A;refine⟨?_,U⟩;have em:c.on<(a.setIfInBounds i true).size:=(by simpa using I);have al:∀ab,(a.setIfInBounds i true).getD c.on ab=(a.setIfInBounds i true)[c.on]:=λab=>(by simp only[Array.getD,em,dif_pos];rfl);rw[al] at v|-;exact v
   rw[getD_set_ne true bd] at a4;obtain⟨v,d4⟩:=V d ⟨a4,el⟩ Q w;refine⟨?_,d4⟩;by_cases bs:i=Q
   ·subst bs;rw[n] at v;cases v
   rw[getD_set_ne true bs];exact v
  rw[Ld O (λb=>z (eY.1 b).1) (λb=>a0 (eY.1 b).1) U];exact fn
def J.draw (H:E.P.follows .mixedOrders=true) (A:ic.ae E C) {g:aQ->Option a} {k:a} {id:Nat} {c:List kA} {h:Exit->aQ->Prop} (b:sT F g9 gJ c=true) (e:rB ic F g9 gJ (jQ c) i g=some k) (v:∀l,g l=some k->h .normal l):J E C (.region id F true) i h:=by
 obtain⟨d,r,s⟩:=yy e;intro p N f x;refine wp_region_any H ?_;have j:left (jQ c) (Array.replicate F.size false)=jQ c:=(by refine mH.2 λK z=>?_;unfold sT at b;simp only[bp,fd] at b;obtain⟨m,n,u⟩:=wT z;have:=(EF b.1.1.2 b.1.1.1 ac (λL B=>(Ap B).elim) (by simp[jQ]) (λQ R e=>by cases e) m K n u).2.2.2.2;simp[Array.getD,this]);have I:(jQ c).length<=F.size:=(by unfold sT at b;simp only[bp] at b;rw[jQ,gE];exact e4 b.2);refine Qg A rfl b (t:=d) (ds:=[]) (λO S y w=>⟨d,v d s,w,y⟩) F.size _ p _ i ac (by rw[j];exact I) ?_ (by rw[j];exact r) ?_ x
 ·intro L ⟨D,G⟩;simp[Array.getD,G] at D
 obtain⟨o,M,q,f⟩:=f;exact⟨o,M,q,f.S9 (gQ.refl N).drew⟩
end
end
section
inductive D1 where
 |none
 |x (l:ad4) (zu:l4)
 |uz (l:ad4) (zu:l4)
inductive D2 where
 |r
 |x (id:Nat) (zu:l4)
 |uz (id:Nat) (zu:l4)
inductive lr where
 |leaf
 |one (a:lr)
 |two (j:D1) (a b:lr)
 |loop (zu:l4) (m:D2) (a:lr)
 |keep (l:ad4) (a:lr)
 |qa (F:ad4) (a:lr)
 |draw (L:List kA)
def Cq:List kA->Nat->ad4
 |[],_=>[]
 |r::b,a=>bif Nat.beq r.i a then r.g9 else Cq b a
def CO:List kA->Nat->ad4
 |[],_=>[]
 |r::b,a=>bif Nat.beq r.i a then r.gJ else CO b a
def Ji {A:Type} (id:Nat) (b:Exit->aQ->Option A):Exit->aQ->Option A
 |.exit c,a=>match Nat.beq c id with
  |true=>b .normal a
  |false=>b (.exit c) a
 |e,a=>b e a
def Ty {a:Type} (c:aQ->Option a):Exit->aQ->Option a
 |.normal,b=>c b
 |_,_=>none
def Tz {b A:Type} (d:aQ->Option b) (c:Exit->aQ->Option A):Exit->aQ->Option (b⊕A)
 |.normal,a=>(d a).map .inl
 |e,a=>(c e a).map .inr
def zo {A:Type} (c:aQ->Option A) (b:Exit->aQ->Option A):Exit->aQ->Option A
 |.normal,a=>c a
 |e,a=>b e a
def T9 {b A:Type} (d:aQ->Option b) (c:Exit->aQ->Option A):Exit->aQ->Option (b⊕A)
 |.normal,a=>(d a).map .inl
 |e,a=>(c e a).map .inr
def Ll {b c:Type} (e:aQ->Option b) (id:Nat) (f:aQ->Option c):Exit->aQ->Option (b⊕c)
 |.normal,a=>(e a).map .inl
 |.exit d,a=>match Nat.beq d id with
  |true=>(f a).map .inr
  |false=>none
 |_,_=>none
def Lm {f g A:Type} (h:aQ->Option f) (id:Nat) (i:aQ->Option g) (c:Exit->aQ->Option A):Exit->aQ->Option (f⊕(g⊕A))
 |.normal,a=>(h a).map .inl
 |.exit d,a=>match Nat.beq d id with
  |true=>(i a).map λb=>.inr (.inl b)
  |false=>(c (.exit d) a).map λb=>.inr (.inr b)
 |e,a=>(c e a).map λb=>.inr (.inr b)
def gW:fM->lr->Code->aQ->(A:Type)->(Exit->aQ->Option A)->Option A
 |ic,.leaf,e,b,_,a=>match e with
  |.skip=>a .normal b
  |.exit id=>a (.exit id) b
  |.ret=>a .ret b
  |.region _ o false=>jP ic o (List.range o.size) b (a .normal)
  |_=>none
 |ic,.one d,e,b,A,a=>match e with
  |.block id i=>gW ic d i b A (Ji id a)
  |_=>none
 |ic,.two u d q,e,b,A,a=>match e with
  |.seq i p=>match u with
   |.none=>gW ic d i b A (zo (λl=>gW ic q p l A a) a)
   |.x j c=>match rC b.g j with
    |some f=>(gW {ic with pin:=j++ic.pin,kg:=f++ic.kg} d i b c.den (Ty (proj c))).bind λk=>gW ic q p (tp {ic with pin:=j++ic.pin,kg:=f++ic.kg} c k) A a
    |none=>none
   |.uz j c=>match rC b.g j with
    |some f=>(gW {ic with pin:=j++ic.pin,kg:=f++ic.kg} d i b (c.den⊕A) (Tz (proj c) a)).bind λ
     |.inl k=>gW ic q p (tp {ic with pin:=j++ic.pin,kg:=f++ic.kg} c k) A a
     |.inr f=>some f
    |none=>none
  |.cond w i p=>match aV b.g w with
   |.val .bool y=>match y with
    |true=>gW ic d i b A a
    |false=>gW ic q p b A a
   |_=>none
  |_=>none
 |ic,.loop c v d,e,b,A,a=>match e with
  |.loop i=>(proj c b).bind λs=>match v with
   |.r=>(loop (λl=>gW ic d i (tp ic c l) (c.den⊕A) (T9 (proj c) a)) s).bind some
   |.x id m=>(loop (λl=>gW ic d i (tp ic c l) (c.den⊕m.den) (Ll (proj c) id (proj m))) s).bind λk=>a (.exit id) (tp ic m k)
   |.uz id m=>(loop (λl=>gW ic d i (tp ic c l) (c.den⊕(m.den⊕A)) (Lm (proj c) id (proj m) a)) s).bind λ
    |.inl k=>a (.exit id) (tp ic m k)
    |.inr f=>some f
  |_=>none
 |ic,.draw n,e,b,_,a=>match e with
  |.region _ o true=>bif sT o (Cq n) (CO n) n then rB ic o (Cq n) (CO n) (jQ n) b (a .normal) else none
  |_=>none
 |ic,.qa t d,e,b,A,a=>bif md b.h t then gW ic d e (rx t b) A a else none
 |ic,.keep j d,e,b,A,a=>match rC b.g j with
  |some f=>gW {ic with pin:=j++ic.pin,kg:=f++ic.kg} d e b A a
  |none=>none
section
variable {E:eh} {C:dD} {ic:fM} {A:Type}
def J.post (t:oe C D) {f:Code} {d:Exit->aQ->Prop} (n:J E C f i (λj c=>d j c\/∃(e a:aQ),d j e/\e=⟨D++a.g,a.h⟩/\nF a.g c/\nG a.h c/\k8 a.g a.h=true)):J E C f i d:=
 λm u r s=>wp_mono (n m u r s) (λ_ _ _ ⟨c,b,k,l⟩=>by
  rcases b with b|⟨e,a,b,rfl,o,p,q⟩
  ·exact⟨c,b,k,l⟩
  exact⟨_,b,(k.xi o p q).kg t,l⟩)
def k7:∀{U:lr} {C:dD} {ic:fM} {n:Code} {k:aQ} {A:Type} {l:Exit->aQ->Option A} {r:A} {m:Exit->aQ->Prop},ic.ae E C->gW ic U n k A l=some r->(∀e i,l e i=some r->m e i)->J E C n k m
 |.leaf,C,ic,n,k,A,l,r,m,b,a,d=>by
  simp only[gW] at a;split at a
  ·exact J.skip (d _ _ a)
  ·exact J.exit (d _ _ a)
  ·exact J.ret (d _ _ a)
  ·exact J.region (Tn b (λi c=>d _ i c) a)
  cases a
 |.one F,C,ic,n,k,A,l,r,m,b,a,d=>by
  simp only[gW] at a;split at a
  ·refine J.block (k7 b a ?_);intro e i c;cases e with
   |exit K=>
    simp only[Ji] at c;simp only[EB];split at c
    ·rename_i q;rw[q];exact d _ _ c
    rename_i q;rw[q];exact d _ _ c
   |_=>exact d _ _ c
  cases a
 |.two K F av,C,ic,n,k,A,l,r,m,b,a,d=>by
  simp only[gW] at a;split at a
  ·rename_i x an;refine J.seq ?_;split at a
   ·refine k7 b a ?_;intro e i c;cases e with
    |normal=>exact k7 b c d
    |_=>exact d _ _ c
   ·rename_i B D;split at a
    case h_2=>cases a
    rename_i O I;obtain⟨j,z,a⟩:=dp.1 a;refine J.keep b.2.2.2.2 I (λP t u o v w=>J.post o (k7 (ic:={ic with pin:=B++ic.pin,kg:=O++ic.kg}) ⟨b.1,b.2.1.trans t.symm,by rw[u,<-b.2.2.1],⟨b.2.2.2.1.1,v _ b.2.2.2.1.2.1,b.2.2.2.1.2.2.1,w b.2.2.2.1.2.2.2.1,b.2.2.2.1.2.2.2.2⟩,o⟩ z ?_));intro e i c;cases e with
    |normal=>exact .inr ⟨_,_,k7 b a d,rfl,r1 c⟩
    |_=>cases c
   rename_i B D;split at a
   case h_2=>cases a
   rename_i O I;obtain⟨j,z,a⟩:=dp.1 a;refine J.keep b.2.2.2.2 I (λP t u o v w=>J.post o (k7 (ic:={ic with pin:=B++ic.pin,kg:=O++ic.kg}) ⟨b.1,b.2.1.trans t.symm,by rw[u,<-b.2.2.1],⟨b.2.2.2.1.1,v _ b.2.2.2.1.2.1,b.2.2.2.1.2.2.1,w b.2.2.2.1.2.2.2.1,b.2.2.2.1.2.2.2.2⟩,o⟩ z ?_));intro e i c;cases e with
   |normal=>
    obtain⟨ab,g,f⟩:=er.1 c;cases f;exact .inr ⟨_,_,k7 b a d,rfl,r1 g⟩
   |_=>
    obtain⟨ab,g,f⟩:=er.1 c;cases f;cases a;exact .inl (d _ _ g)
  ·rename_i bd x an;split at a
   ·rename_i bl X;refine J.cond X (λe=>?_) (λe=>?_)
    ·subst e;exact k7 b a d
    subst e;exact k7 b a d
   cases a
  cases a
 |.loop D Y F,C,ic,n,k,A,l,r,m,b,a,d=>by
  simp only[gW] at a;split at a
  case h_2=>cases a
  rename_i x;obtain⟨a4,V,a⟩:=dp.1 a;obtain⟨L,M,N⟩:=r1 V;refine J.post b.2.2.2.2 ?_;cases Y with
  |r=>
   refine J.loop (jK D) a L M N ?_;intro i Q y s;refine J.kg b.2.2.2.2 (k7 b y ?_);intro e R c;cases e with
   |normal=>
    obtain⟨j,g,f⟩:=er.1 c;cases f;exact⟨rfl,r1 g⟩
   |_=>
    obtain⟨j,g,f⟩:=er.1 c;cases f;cases s;exact⟨(λa=>by cases a),.inl (d _ _ g)⟩
  |x id am=>
   refine J.loop (jK D) a L M N ?_;intro i Q y s;refine J.kg b.2.2.2.2 (k7 b y ?_);intro e R c;cases e with
   |normal=>
    obtain⟨j,g,f⟩:=er.1 c;cases f;exact⟨rfl,r1 g⟩
   |exit K=>
    simp only[Ll] at c;split at c
    ·rename_i q;obtain rfl:=eF q;obtain⟨j,g,f⟩:=er.1 c;cases f;exact⟨(λa=>by cases a),.inr ⟨_,_,d _ _ s,rfl,r1 g⟩⟩
    cases c
   |_=>cases c
  |uz id am=>
   refine J.loop (jK D) a L M N ?_;intro i Q y s;refine J.kg b.2.2.2.2 (k7 b y ?_);intro e R c;cases e with
   |normal=>
    obtain⟨j,g,f⟩:=er.1 c;cases f;exact⟨rfl,r1 g⟩
   |exit K=>
    simp only[Lm] at c;split at c
    ·rename_i q;obtain rfl:=eF q;obtain⟨j,g,f⟩:=er.1 c;cases f;exact⟨(λa=>by cases a),.inr ⟨_,_,d _ _ s,rfl,r1 g⟩⟩
    obtain⟨j,g,f⟩:=er.1 c;cases f;cases s;exact⟨(λa=>by cases a),.inl (d _ _ g)⟩
   |_=>
    obtain⟨j,g,f⟩:=er.1 c;cases f;cases s;exact⟨(λa=>by cases a),.inl (d _ _ g)⟩
 |.draw G,C,ic,n,k,A,l,r,m,b,a,d=>by
  simp only[gW] at a;split at a
  case h_2=>cases a
  rename_i id Z;cases p:sT Z (Cq G) (CO G) G with
  |false=>rw[p] at a;cases a
  |true=>
  rw[p] at a;exact J.draw E.mix b p a (λi c=>d _ i c)
 |.qa S F,C,ic,n,k,A,l,r,m,b,a,d=>by
  simp only[gW] at a;cases p:md k.h S with
  |false=>rw[p] at a;cases a
  |true=>
  rw[p] at a;intro T ad H W;obtain⟨ap,a3,a0,H⟩:=H;exact k7 b a d T ad (H.freeze (md.ok p)) W
 |.keep B F,C,ic,n,k,A,l,r,m,b,a,d=>by
  simp only[gW] at a;split at a
  case h_2=>cases a
  rename_i j z;refine J.keep b.2.2.2.2 z ?_;intro P t u o v w;exact k7 (ic:={ic with pin:=B++ic.pin,kg:=j++ic.kg}) ⟨b.1,b.2.1.trans t.symm,by rw[u,<-b.2.2.1],⟨b.2.2.2.1.1,v _ b.2.2.2.1.2.1,b.2.2.2.1.2.2.1,w b.2.2.2.1.2.2.2.1,b.2.2.2.1.2.2.2.2⟩,o⟩ a d
end
end
end Go.h2
end
