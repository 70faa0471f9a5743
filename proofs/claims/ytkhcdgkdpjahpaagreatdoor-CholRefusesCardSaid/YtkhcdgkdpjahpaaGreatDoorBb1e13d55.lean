/-
  Parts of the proof: Fw25, Fw36, Fw46, Fw47, Pl1, Fs, Dn20, Dn21, TwS, Dn20b, Dn22, Dn24a, Dn24, Tw24, Ok24, Pa1, Pl2, Pl3: the framework (Fw), pure forms (Dn), plain laws (Pl, Th), calls of functions (Ok).
-/
import Derived.ProofKit
import Derived.Handed
import Derived.KernelRfl
import Derived.Lib.SlicesCompact
import Derived.RangeFuncBox
import Derived.RangeFuncLeaves
import Derived.Shelf.Abstract
import Derived.WalkKit
import Derived.OwnWalkIn
import Derived.TacticsInMore
import Derived.LoopNIn
import Derived.LoopIn
import Derived.Maps.AppendAt
import Derived.Shelf.Slices.CompactI
import Derived.Lib.OwnBridge
import Derived.Test.YtkhcdgkdpjahpaaGreatDoorProg
import Derived.Test.YtkhcdgkdpjahpaaGreatDoorBe6221a09

set_option linter.all false
set_option maxHeartbeats 1000000
noncomputable section
namespace Go.ia
variable{a:Nat}{b:ac8}{c:Type}{d:Int}{e:Value}{f:List fu}{g:List ai}{h:World}{i:List ResultVar}{j:c5->Nat->Prop}{k:Func}{l:Nat->Prop}
section
def lD:Nat->(f:List fu)->fB f->List (Nat×ao)
 |_,[],_=>[]
 |k,.v g::b,a=>(k,.val g a.1)::lD (k+1) b a.2
 |k,.m _::b,a=>(k,.ref k [])::lD (k+1) b a.2
 |k,.o _::b,a=>(k,.ref k [])::lD (k+1) b a.2
 |k,.c e h::b,a=>(k,.df e ((hl h a.1).map λd=>.val d.1 d.2))::lD (k+1) b a.2
 |k,.n::b,a=>(k,.bQ (.slice none 0 0))::lD (k+1) b a.2
 |k,.w _::b,a=>(k,.view k [] a.1.2.1 a.1.2.2)::lD (k+1) b a.2
 |k,.s _ _::b,a=>lD (k+1) b a.2
def lE:Nat->(e:List fu)->fB e->List (Nat×aH)
 |_,[],_=>[]
 |k,.v _::b,a=>lE (k+1) b a.2
 |k,.m d::b,a=>(k,⟨d,a.1⟩)::lE (k+1) b a.2
 |k,.o d::b,a=>(k,⟨d,a.1⟩)::lE (k+1) b a.2
 |k,.c _ _::b,a=>lE (k+1) b a.2
 |k,.n::b,a=>lE (k+1) b a.2
 |k,.w f::b,a=>(k,⟨.osl f,a.1.1⟩)::lE (k+1) b a.2
 |k,.s _ _::b,a=>lE (k+1) b a.2
def ih:Nat->List fu->ac7
 |_,[]=>[]
 |k,.m _::a=>k::ih (k+1) a
 |k,.v _::a=>ih (k+1) a
 |k,.o _::a=>ih (k+1) a
 |k,.c _ _::a=>ih (k+1) a
 |k,.n::a=>ih (k+1) a
 |k,.w _::a=>k::ih (k+1) a
 |k,.s _ _::a=>ih (k+1) a
def Dt {r:Type}:∀{k:Nat} {ps:List fu} {a:fB ps} {b:g9 ps r},h3 k (eO ps a b)=lD k ps a/\iv k (eO ps a b)=lE k ps a/\fR k (eO ps a b)=ih k ps/\(eO ps a b).length=ps.length
 |k,[],a,b=>⟨rfl,rfl,rfl,rfl⟩
 |k,i::h,a,b=>by
  have g:=λa b=>Dt (r:=r) (k:=k+1) (ps:=h) (a:=a) (b:=b);cases i
  case m=>
   obtain⟨c,d,e,f⟩:=g a.2 b.2;simp only[eO,h3,iv,fR,lD,lE,ih,hX,c,d,e,f,and_self]
  case w=>
   obtain⟨c,d,e,f⟩:=g a.2 b.2;simp only[eO,h3,iv,fR,lD,lE,ih,hX,c,d,e,f,and_self]
  all_goals obtain⟨c,d,e,f⟩:=g a.2 b;simp only[eO,h3,iv,fR,lD,lE,ih,hX,c,d,e,f,and_self]
def Cr (tt:List (TypeId×ai)) (e:aO) (b:ai):ResultVar->Option (b.den×ac7)
 |.tmp k=>match gt e.g k with
  |.val _ l=>(gv b l).bind λa=>some (a,[])
  |.bQ f=>bif m2 b f then(he b f.cells.toList).bind λa=>some (a,[]) else none
  |.ref id d=>match au e.h id with
   |some c=>(gg c.1 c.2 d b).bind λa=>some (a,[id])
   |none=>none
  |_=>none
 |.cell j i=>match au tt i with
  |some m=>bif a1 m b then match gt e.g j with
   |.ref id d=>match au e.h id with
    |some c=>match dF c.1 d with
     |some (.optr _)=>(gg c.1 c.2 (d++[.deref]) b).bind λa=>some (a,[id])
     |_=>none
    |none=>none
   |_=>none else none
  |none=>none
def Cq (tt:List (TypeId×ai)) (c:aO):List ResultVar->(a:List ai)->Option (j1 a×ac7)
 |[],[]=>some ((),[])
 |r::f,e::a=>bif e.es then(Cr tt c e r).bind λd=>(Cq tt c f a).map λb=>((d.1,b.1),d.2++b.2) else none
 |_,_=>none
def Xh {E:dR} {l:aO} {d:ai} {e:ResultVar} {i:d.den×ac7} (a:Cr E.tt l d e=some i):p9 E.P l ⟨d,i.1⟩ e i.2:=by
 cases e with
 |tmp e=>
  simp only[Cr] at a;simp only[p9];split at a
  ·rename_i v u b;obtain⟨k,c,a⟩:=bZ.1 a;cases a;rw[b];exact⟨iR c,rfl⟩
  ·rename_i r b;cases f:m2 d r with
   |false=>rw[f] at a;cases a
   |true=>
   rw[f] at a;obtain⟨k,c,a⟩:=bZ.1 a;cases a;rw[b];exact⟨c,m2.ok f,rfl⟩
  ·rename_i id q b;split at a
   case h_2=>cases a
   rename_i j h;obtain⟨k,c,a⟩:=bZ.1 a;cases a;rw[b];exact⟨rfl,j,h,g5 c⟩
  cases a
 |cell t n=>
  simp only[Cr] at a;simp only[p9];split at a
  case h_2=>cases a
  rename_i m o;cases g:a1 m d with
  |false=>rw[g] at a;cases a
  |true=>
  rw[g] at a;refine⟨(E.ok n m o).lay g,?_⟩;simp only[cond_true] at a;split at a
  case h_2=>cases a
  rename_i id q b;split at a
  case h_2=>cases a
  rename_i j h;split at a
  case h_2=>cases a
  rename_i s p;obtain⟨k,c,a⟩:=bZ.1 a;cases a;rw[b];exact⟨rfl,j,s,h,p,g5 c⟩
def Mv {E:dR} {f:aO}:∀{e:List ResultVar} {c:List ai} {b:j1 c×ac7},Cq E.tt f e c=some b->rD E.P f e (hl c b.1) b.2
 |[],[],b,a=>by cases a;rfl
 |[],_::_,b,a=>by cases a
 |_::_,[],b,a=>by cases a
 |r::e,k::c,b,a=>by
  simp only[Cq] at a;cases d:k.es with
  |false=>rw[d] at a;cases a
  |true=>
  rw[d] at a;simp only[cond_true] at a;obtain⟨j,h,a⟩:=bZ.1 a;obtain⟨i,g,rfl⟩:=dY.1 a;exact⟨d,j.2,i.2,rfl,Xh h,Mv g⟩
def nm (
 st:aO) {t:Type} (d:Option t):Nat->(r:List fu)->fB r->Option (g9 r t)
 |_,[],_=>d
 |k,.v _::b,a=>nm st d (k+1) b a.2
 |k,.o _::b,a=>nm st d (k+1) b a.2
 |k,.c _ _::b,a=>nm st d (k+1) b a.2
 |k,.n::b,a=>nm st d (k+1) b a.2
 |k,.s _ _::b,a=>nm st d (k+1) b a.2
 |k,.m l::b,a=>bif qf (.ref k []) (gt st.g k)&&(l.es&&pT l) then match au st.h k with
  |some j=>match gv l j.2 with
   |some e=>(nm st d (k+1) b a.2).map λi=>(e,i)
   |none=>none
  |none=>none else none
 |k,.w f::b,a=>match gt st.g k with
  |.view u [] q p=>bif Nat.beq k u&&f.es then match au st.h k with
   |some j=>match gv (.osl f) j.2 with
    |some e=>bif Nat.beq q a.1.2.1&&(Nat.beq p a.1.2.2&&(Nat.beq (List.length (α:=f.den) e) (List.length (α:=f.den) a.1.1)&&Nat.blt q p)) then(nm st d (k+1) b a.2).map λi=>(e,i) else none
    |none=>none
   |none=>none else none
  |_=>none
def qZ {y:aO} {C:Type} {B:Option C}:∀{k:Nat} {ps:List fu} {a:fB ps} {e:g9 ps C},nm y B k ps a=some e->nS y k (eO ps a e)/\B=some (gI ps e)
 |k,[],a,e,b=>⟨trivial,b⟩
 |k,.v _::f,a,e,b=>qZ (ps:=f) b
 |k,.o _::f,a,e,b=>qZ (ps:=f) b
 |k,.c _ _::f,a,e,b=>qZ (ps:=f) b
 |k,.n::f,a,e,b=>qZ (ps:=f) b
 |k,.s _ _::f,a,e,b=>qZ (ps:=f) b
 |k,.m E::f,a,e,b=>by
  simp only[nm] at b;cases d:(qf (.ref k []) (gt y.g k)&&(E.es&&pT E)) with
  |false=>rw[d] at b;cases b
  |true=>
  rw[d] at b;simp only[bc] at d;simp only[cond_true] at b;split at b
  case h_2=>cases b
  rename_i J t;split at b
  case h_2=>cases b
  rename_i D u;obtain⟨I,r,rfl⟩:=dY.1 b;obtain⟨l,p⟩:=qZ (a:=a.2) r;refine⟨⟨⟨(qf.ok d.1).symm,?_,d.2.1,d.2.2⟩,l⟩,p⟩;rw[t];exact congrArg some (iR u)
 |k,.w z::f,a,e,b=>by
  simp only[nm] at b;split at b
  case h_2=>cases b
  rename_i H x q G;cases d:(Nat.beq k H&&z.es) with
  |false=>rw[d] at b;cases b
  |true=>
  rw[d] at b;simp only[bc] at d;obtain rfl:=ep d.1;simp only[cond_true] at b;split at b
  case h_2=>cases b
  rename_i J t;split at b
  case h_2=>cases b
  rename_i D u;cases h:(Nat.beq x a.1.2.1&&(Nat.beq q a.1.2.2&&(Nat.beq (List.length (α:=z.den) D) (List.length (α:=z.den) a.1.1)&&Nat.blt x q))) with
  |false=>rw[h] at b;cases b
  |true=>
  rw[h] at b;simp only[bc] at h;obtain⟨i,j,F,A⟩:=h;have i:=ep i;have j:=ep j;have A:x<q:=eM A;obtain⟨I,r,rfl⟩:=dY.1 b;obtain⟨l,p⟩:=qZ (a:=a.2) r;refine⟨⟨⟨by rw[G,i,j],?_,⟨d.2,U⟩,ep F⟩,l⟩,p⟩;rw[t];exact congrArg some (iR u)
def Bp (tt:List (TypeId×ai)) (a:List fu) (f:List ResultVar) (d:List ai) (e:fB a) (c:aO):Option (g9 a (j1 d)):=
 match Cq tt c f d with
 |some b=>bif hO (ih 0 a++b.2) then nm c (some b.1) 0 a e else none
 |none=>none
def Je {E:dR} {m:aO} {d:fB f} {e:g9 f (j1 g)} {h:Exit} (p:h=.normal\/h=.ret) (c:Bp E.tt f i g d m=some e):G5 E.P (eO f d e) i (hl g (gI f e)) h m:=by
 unfold Bp at c;split at c
 case h_2=>cases c
 rename_i l q;cases j:hO (ih 0 f++l.2) with
 |false=>rw[j] at c;cases c
 |true=>
 rw[j] at c;simp only[cond_true] at c;obtain⟨n,o⟩:=qZ (a:=d) c;refine⟨p,l.2,?_,?_,n⟩
 ·rw[<-ee o];exact Mv q
 rw[(Dt (k:=0) (ps:=f) (a:=d) (b:=e)).2.2.1];exact j
def Jf (tt:List (TypeId×ai)) (a:List fu) (e:List ResultVar) (c:List ai) (d:fB a):Exit->aO->Option (g9 a (j1 c))
 |.normal,b=>Bp tt a e c d b
 |.ret,b=>Bp tt a e c d b
 |_,_=>none
def xo (c:fo) (e:kO) (f:Code) (a:List fu) (g:List ResultVar) (d:List ai) (b:fB a):Option (g9 a (j1 d)):=
 gy c e f ⟨lD 0 a b,lE 0 a b⟩ _ (Jf c.tt a g d b)
section
variable {E:dR}
def aB.KS {h:Nat} {d:Func} {j:fB f->Option (g9 f (j1 g))} (n:List (Nat×hV)) (s:List (Nat×ai)) (o:ac9) (x:kO) (aF:ac0) (I:∀w∈aF,G4 E.P w) (H:E.P.funcs[h]?=some d) (q:d.body.isSome=true) (M:d.results=i.toArray) (L:Nat.ble f.length d.ntmps=true) (G:∀(t:acZ) (u:World),(callFunc h t).run E.P u=.ok (.enter h t) u) (N:∀O∈n,aB E O.2) (C:∀e,xo ⟨E.tt,n,s,d.ntmps,ih 0 f++lS (hT 0 f),[],o,hT 0 f,aF,[],E.glob⟩ x (d.body.getD .skip) f i g e=j e):aB E ⟨h,f,g,j⟩:=by
 refine⟨G,λe v p=>?_⟩;rw[show(hV.mk h f g j).vo e=j e from rfl,<-C e] at p;obtain⟨al,z,A,B⟩:=Dt (k:=0) (ps:=f) (a:=e) (b:=v);refine pW.Tz H (c:=d.body.getD .skip) (by cases F:d.body with|none=>rw[F] at q;cases q|some Q=>rfl) M (by rw[B];exact eM L) ?_;intro R D l K r J;rw[al,z];rw[yl] at l r;rw[A] at l;refine kD (ic:=⟨E.tt,n,s,d.ntmps,ih 0 f++lS (hT 0 f),[],o,hT 0 f,aF,[],E.glob⟩) ⟨rfl,D.symm,l.symm,⟨N,r,I,J,rfl⟩,nL.nil K⟩ p ?_;intro y S m;cases y with
 |normal=>exact Je (.inl rfl) m
 |ret=>exact Je (.inr rfl) m
 |_=>cases m
def aB.of {fn:Func} {rs:List ResultVar} {j:fB f->Option (g9 f (j1 g))} (c:List (Nat×hV)) (i:List (Nat×ai)) (h:ac9) (e:kO) (o:E.P.funcs[a]?=some fn) (m:fn.body.isSome=true) (q:fn.results=rs.toArray) (p:Nat.ble f.length fn.ntmps=true) (n:∀(k:acZ) (l:World),(callFunc a k).run E.P l=.ok (.enter a k) l) (r:∀s∈c,aB E s.2) (b:∀d,xo ⟨E.tt,c,i,fn.ntmps,ih 0 f++lS (hT 0 f),[],h,hT 0 f,[],[],E.glob⟩ e (fn.body.getD .skip) f rs g d=j d):aB E ⟨a,f,g,j⟩:=
 aB.KS c i h e [] (λ_ b=>by cases b) o m q p n r b
def Cw:Code->Code
 |.seq a _=>a
 |c=>c
def MY:Code->Code
 |.seq _ a=>a
 |c=>c
def s3 (a:Nat):Code->Option (Array Oper)
 |.region d e _=>if d=a then some e else none
 |.seq b c=>(s3 a b).orElse λ_=>s3 a c
 |.cond _ b c=>(s3 a b).orElse λ_=>s3 a c
 |.block _ b=>s3 a b
 |.loop b=>s3 a b
 |_=>none
def EM {b:fo} {k:Type} {c:Array Oper} {f:ac7} {d:aO->Option k}:∀(j:ac7) (g:aO),jl b c (j++f) g d=jl b c j g λa=>jl b c f a d
 |[],g=>rfl
 |i::e,g=>by
  have h:(λa=>jl b c (e++f) a d)=λa=>jl b c e a λa=>jl b c f a d:=funext λa=>EM e a;simp only[jc,jl];split
  ·rfl
  split
  ·rw[h]
  simp only[h,EM e]
def RC {b:Program} {tt:List (TypeId×ai)} (i:∀c f,au tt c=some f->dC b f c) {a:rH} {S:TypeId} (g:b.underlying a.T=some (.array a.xs.length S)) (h:au tt S=some (.int a.k)):∀e∈[a],Hj b e:=λe d=>by rw[ed] at d;subst d;exact⟨S,g,i _ _ h⟩
def Ni:∀b∈([]:List (Nat×hV)),aB E b.2:=λ_ a=>by cases a
def YE {d:hV} {e:List (Nat×hV)} (f:aB E d) (g:∀b∈e,aB E b.2):∀b∈(a,d)::e,aB E b.2:=λb c=>by
 rcases dg.1 c with rfl|c
 ·exact f
 exact g b c
end
def th:Value->Value->Bool
 |.int c a,.int d b=>if c=d/\a=b then true else false
 |.bool a,.bool b=>a==b
 |.string a,.string b=>a.data.toList.isEmpty&&b.data.toList.isEmpty
 |.slice none 0 0,.slice none 0 0=>true
 |.map none,.map none=>true
 |.pointer none,.pointer none=>true
 |_,_=>false
def HY {a:ByteArray} (c:a.data.toList.isEmpty=true):a=ByteArray.empty:=by
 cases a with|mk b=>cases b with|mk d=>cases d with
  |nil=>rfl
  |cons=>cases c
def th.ok {b:Value} (a:th e b=true):e=b:=by
 unfold th at a;split at a
 ·split at a
  ·rename_i c;obtain⟨rfl,rfl⟩:=c;rfl
  cases a
 ·rw[beq_iff_eq.1 a]
 ·simp only[bc] at a;rw[HY a.1,HY a.2]
 ·rfl
 ·rfl
 ·rfl
 cases a
def tj:ac1->ac1->Bool
 |[],[]=>true
 |a::c,b::d=>th a b&&tj c d
 |_,_=>false
def tj.ok:∀{c d:ac1},tj c d=true->c=d
 |[],[],_=>rfl
 |[],_::_,b=>by cases b
 |_::_,[],b=>by cases b
 |a::c,e::d,b=>by simp only[tj,bc] at b;rw[th.ok b.1,tj.ok b.2]
def ik (b:Program) (c:TypeId) (d:Nat) (f:Value):Bool:=match b.info? c with
 |some a=>Nat.beq a.size 1&&Nat.ble a.bytes d&&(match a.zero with|some e=>th e f|none=>false)
 |none=>false
def ik.ok {d:Program} {e:TypeId} {f:Nat} {g:Value} (b:ik d e f g=true):∃a,d.info? e=some a/\a.size=1/\a.bytes<=f/\a.zero=some g:=by
 unfold ik at b;split at b
 case h_2=>cases b
 rename_i a j;simp only[bc] at b;obtain⟨⟨h,i⟩,c⟩:=b;split at c
 case h_2=>cases c
 rename_i l k;exact⟨a,j,ep h,eM i,by rw[k,th.ok c]⟩
mutual
def gp (a:Program):ai->TypeId->Bool
 |.int g,b=>ik a b 24 (.int g 0)&&(match a.underlying b with|some (.int j)=>if j=g then true else false|_=>false)
 |.bool,b=>ik a b 24 (.bool false)&&(match a.underlying b with|some .bool=>true|_=>false)
 |.str,b=>ik a b 24 (.string ByteArray.empty)&&(match a.underlying b with|some .string=>true|_=>false)
 |.a5 _ c,b=>ik a b 24 (.slice none 0 0)&&(match a.underlying b with|some (.slice d)=>gp a c d|_=>false)
 |.osl c,b=>ik a b 24 (.slice none 0 0)&&(match a.underlying b with|some (.slice d)=>gp a c d|_=>false)
 |.ptr _ c,b=>ik a b 24 (.pointer none)&&(match a.underlying b with|some (.pointer d)=>gp a c d|_=>false)
 |.optr c,b=>ik a b 24 (.pointer none)&&(match a.underlying b with|some (.pointer d)=>gp a c d|_=>false)
 |.mp c,b=>ik a b 24 (.map none)&&(match a.underlying b with|some (.map e d)=>(match a.underlying e with|some (.int .i64)=>gp a c d|_=>false)|_=>false)
 |.dB _ c,b=>ik a b 24 (.map none)&&(match a.underlying b with|some (.map e d)=>(match a.underlying e with|some (.int .i64)=>gp a c d|_=>false)|_=>false)
 |.st c,b=>Nat.blt 0 c.size&&match a.info? b with
  |some f=>Nat.beq f.size c.size&&Nat.ble f.bytes (24*c.size)&&(match f.zero with
   |some (.agg h)=>Nat.beq h.size c.size&&(match a.underlying b with|some (.struct i)=>qE a c i.toList 0 h.toList|_=>false)
   |_=>false)
  |none=>false
 |_,_=>false
def qE (c:Program):ai->List Field->Nat->ac1->Bool
 |.pr a f,d::h,e,b=>Nat.beq d.offset e&&gp c a d.type&&Nat.blt 0 a.size&&(match c.info? d.type with|some g=>(match g.zero with|some i=>tj (b.take a.size) i.cells.toList|none=>false)|none=>false)&&qE c f h (e+a.size) (b.drop a.size)
 |.nil,[],_,b=>b.isEmpty
 |_,_,_,_=>false
end
mutual
theorem gp.ok {n:Program}:∀{o:ai} {i:TypeId},gp n o i=true->dC n o i
 |.int w,i,a=>by
  simp only[gp,bc] at a;obtain⟨c,b⟩:=a;obtain⟨e,aw,f,g,h⟩:=ik.ok c;split at b
  ·rename_i x d;split at b
   ·rename_i p;subst p;exact⟨e,aw,f,g,h,d⟩
   cases b
  cases b
 |.bool,i,a=>by
  simp only[gp,bc] at a;obtain⟨c,b⟩:=a;obtain⟨e,aw,f,g,h⟩:=ik.ok c;split at b
  ·rename_i d;exact⟨e,aw,f,g,h,d⟩
  cases b
 |.str,i,a=>by
  simp only[gp,bc] at a;obtain⟨c,b⟩:=a;obtain⟨e,aw,f,g,h⟩:=ik.ok c;split at b
  ·rename_i d;exact⟨e,aw,f,g,h,d⟩
  cases b
 |.a5 _ k,i,a=>by
  simp only[gp,bc] at a;obtain⟨c,b⟩:=a;obtain⟨e,aw,f,g,h⟩:=ik.ok c;split at b
  ·rename_i j d;exact⟨e,j,aw,f,g,h,d,gp.ok b⟩
  cases b
 |.osl k,i,a=>by
  simp only[gp,bc] at a;obtain⟨c,b⟩:=a;obtain⟨e,aw,f,g,h⟩:=ik.ok c;split at b
  ·rename_i j d;exact⟨e,j,aw,f,g,h,d,gp.ok b⟩
  cases b
 |.ptr _ k,i,a=>by
  simp only[gp,bc] at a;obtain⟨c,b⟩:=a;obtain⟨e,aw,f,g,h⟩:=ik.ok c;split at b
  ·rename_i j d;exact⟨e,j,aw,f,g,h,d,gp.ok b⟩
  cases b
 |.optr k,i,a=>by
  simp only[gp,bc] at a;obtain⟨c,b⟩:=a;obtain⟨e,aw,f,g,h⟩:=ik.ok c;split at b
  ·rename_i j d;exact⟨e,j,aw,f,g,h,d,gp.ok b⟩
  cases b
 |.mp k,i,a=>by
  simp only[gp,bc] at a;obtain⟨c,b⟩:=a;obtain⟨e,aw,f,g,h⟩:=ik.ok c;split at b
  ·rename_i l j d;split at b
   ·rename_i m;exact⟨e,l,j,aw,f,g,h,d,m,gp.ok b⟩
   cases b
  cases b
 |.dB _ k,i,a=>by
  simp only[gp,bc] at a;obtain⟨c,b⟩:=a;obtain⟨e,aw,f,g,h⟩:=ik.ok c;split at b
  ·rename_i l j d;split at b
   ·rename_i m;exact⟨e,l,j,aw,f,g,h,d,m,gp.ok b⟩
   cases b
  cases b
 |.st k,i,a=>by
  simp only[gp,bc] at a;obtain⟨r,a⟩:=a;split at a
  case h_2=>cases a
  rename_i e t;simp only[bc] at a;obtain⟨⟨c,b⟩,a⟩:=a;split at a
  case h_2=>cases a
  rename_i v u;simp only[bc] at a;obtain⟨s,a⟩:=a;split at a
  case h_2=>cases a
  rename_i q d;exact⟨eM r,e,q,v,t,ep c,eM b,u,d,qE.ok a,ep s⟩
 |.pr _ _,_,a=>by cases a
 |.nil,_,a=>by cases a
 |.c6,_,a=>by cases a
theorem qE.ok {f:Program}:∀{g:ai} {b:List Field} {d:Nat} {c:ac1},qE f g b d c=true->ha f g b d c
 |.pr h i,[],d,c,a=>by cases a
 |.pr h i,r::s,d,c,a=>by
  simp only[qE,bc] at a;obtain⟨⟨⟨⟨j,k⟩,l⟩,e⟩,m⟩:=a;split at e
  case h_2=>cases e
  rename_i p n;split at e
  case h_2=>cases e
  rename_i q o;exact⟨ep j,gp.ok k,eM l,⟨p,q,n,o,tj.ok e⟩,qE.ok m⟩
 |.nil,[],d,c,a=>by have a:c=[]:=(by simpa[qE] using a);exact a
 |.nil,_::_,d,c,a=>by cases a
 |.int _,b,d,c,a=>by cases b<;>cases a
 |.bool,b,d,c,a=>by cases b<;>cases a
 |.str,b,d,c,a=>by cases b<;>cases a
 |.a5 _ _,b,d,c,a=>by cases b<;>cases a
 |.ptr _ _,b,d,c,a=>by cases b<;>cases a
 |.osl _,b,d,c,a=>by cases b<;>cases a
 |.optr _,b,d,c,a=>by cases b<;>cases a
 |.st _,b,d,c,a=>by cases b<;>cases a
 |.c6,b,d,c,a=>by cases b<;>cases a
end
def Ns {e:Program}:∀{tt:List (TypeId×ai)},(tt.all λf=>gp e f.2 f.1)=true->∀b d,au tt b=some d->dC e d b
 |[],_,_,_,a=>by cases a
 |(k,h)::r,a,b,d,c=>by
  simp only[ru,bc] at a;rw[bU] at c;split at c
  ·rename_i g;cases c;subst g;exact gp.ok a.1
  exact Ns (by simpa using a.2) b d c
end
section
def nX:(i:ai)->i.den->Prop
 |.int g,h=>(Lit.int g h).wf=true
 |.a5 _ b,c=>c.length<=maxLen/\∀a∈c,nX b a
 |.ptr _ b,a=>∀d,a=some d->nX b d
 |.st b,a=>nX b a
 |.pr e f,a=>nX e a.1/\nX f a.2
 |_,_=>True
def qe:ai->Bool
 |.int _|.bool|.str|.nil=>true
 |.a5 _ a|.ptr _ a|.st a=>qe a
 |.pr b c=>qe b&&qe c
 |_=>false
def DA {P:Program} {c:ai} {a:TypeId} (d:dC P c a):P.cellsOf a=c.size:=by obtain⟨f,e,b,_⟩:=d.info;unfold Program.cellsOf;rw[b.info];simp[b.size]
section
variable {A:Type} {enc:TypeId×Value->A} {P:Program} {w:World}
def DB {l:Nat} {b:Addr} {c:ac1} (f:w.cells? l b a=some c) (j:0<a):b.spot=none/\c.length=a/\b.block<w.heap.size/\dL w b.block b.off c:=by
 have n:=World.cells?_block f j;obtain⟨_,i,g⟩:=World.cells?_some f;have e:b.spot=none:=by
  have d:=g 0 j;have:(w.cell? (b.add 0)).isSome=true:=(by rw[d];simp[a9 (U:0<c.length)]);simp only[Addr.add,if_true] at this;unfold World.cell? at this;split at this
  ·cases o:b.spot with
   |none=>rfl
   |some t=>rw[o] at this;simp at this
  cases this
 refine⟨e,i,n,λk s h=>?_⟩;have m:k<a:=(by rw[<-i];exact(ec.1 h).1);have:=g k m;rw[h] at this;rw[<-this];congr 1;unfold Addr.add;obtain⟨p,q,r⟩:=b;simp only at e;subst e;split
 ·rename_i d;subst d;rfl
 rfl
def yW (w:World):c5->Nat->Prop:=λ_ a=>a<w.heap.size
mutual
theorem CK:∀{τ:ai} {l:TypeId} {k:ac1} {q:Nat} {u:DataW A×List MemPlace},qe τ=true->dC P τ l->DataW.trod enc P w 0 (λ_=>true) true q l k=some u->∃c:τ.den,aP (yW w) w τ k c []/\nX τ c
 |.int p,l,k,q,u,_,⟨a,_,_,_,_,h⟩,d=>by obtain⟨C,rfl,_,bl⟩:=DataW.trod_int h d;exact⟨C,⟨rfl,rfl⟩,bl⟩
 |.bool,l,k,q,u,_,⟨a,_,_,_,_,h⟩,d=>by obtain⟨D,rfl,_⟩:=DataW.trod_bool h d;exact⟨D,⟨rfl,rfl⟩,trivial⟩
 |.str,l,k,q,u,_,⟨a,_,_,_,_,h⟩,d=>by obtain⟨cv,rfl,_,_⟩:=DataW.trod_string h d;exact⟨cv,⟨rfl,rfl⟩,trivial⟩
 |.a5 ci b,l,k,q,u,g,⟨a,S,_,_,_,_,h,t⟩,d=>by
  rcases DataW.trod_slice h d with⟨rfl,_⟩|⟨e,z,T,N,d3,C,rfl,rfl,_,_,a0,d0,d1,H,_⟩
  ·exact⟨[],⟨rfl,none,0,rfl,a6 _,λ_=>rfl,.inl rfl⟩,by simp[maxLen],ab⟩
  have G:=DA t;have R:=t.pos;have M:∀a,a<z->∃c:b.den,∃f:ac1,f.length=b.size/\w.cells? 0 (e.add (a*b.size)) b.size=some f/\aP (yW w) w b f c []/\nX b c:=by
   intro a m;have i:=H a m;have v:N[a]?=some (N[a]'(by omega)):=a9 _
   rw[v] at i;obtain⟨f,r,E⟩:=bZ.1 i;rw[G] at r;obtain⟨c,n,s⟩:=CK (τ:=b) g t E;exact⟨c,f,n.len,r,n,s⟩
  have a3:∀p,p<=z->∃o:List b.den,o.length=p/\∀(a:Nat) (c:b.den),o[a]?=some c->∃f:ac1,f.length=b.size/\w.cells? 0 (e.add (a*b.size)) b.size=some f/\aP (yW w) w b f c []/\nX b c:=by
   intro p
   induction p with
   |zero=>intro _;exact⟨[],rfl,λa c d=>by simp at d⟩
   |succ p ce=>
    intro d2;obtain⟨o,i,v⟩:=ce U;obtain⟨c,f,r⟩:=M p U;refine⟨o++[c],by simp[i],λa K j=>?_⟩;rcases bn a o.length with m|m
    ·rw[lq m] at j;exact v a K j
    rw[l5 m] at j;have an:a=p:=(by have:=(ec.1 j).1;simp at this;omega);subst an;rw[i,Nat.sub_self] at j;simp only[iI,bF] at j;subst j;exact⟨f,r⟩
  obtain⟨o,i,v⟩:=a3 z (a6 _);refine⟨o,⟨rfl,some e,T,by rw[i],by rw[i];exact a0,(λd=>by cases d),?_⟩,by rw[i];omega,λc n=>?_⟩
  ·cases z with
   |zero=>exact .inl (C7.1 i)
   |succ z=>
    right;obtain⟨d4,ds,_,Q,_⟩:=M 0 U;have am:e.add (0*b.size)=e:=(by simp[Addr.add]);rw[am] at Q;obtain⟨y,_,I,_⟩:=DB Q R;refine⟨e.block,e.off,by obtain⟨D,co,dl⟩:=e;simp only at y;subst y;rfl,I,λa c n=>?_⟩;obtain⟨f,W,X,Y,_⟩:=v a c n;obtain⟨_,_,_,B⟩:=DB X R;refine⟨f,W,?_,Y⟩;have al:(e.add (a*b.size)).block=e.block:=(by unfold Addr.add;split<;>rfl);have Z:(e.add (a*b.size)).off=e.off+a*b.size:=by
     unfold Addr.add;split
     ·rename_i ad;rw[ad];rfl
     rfl
    rw[al,Z] at B;exact B
  obtain⟨a,m,rfl⟩:=gD.1 n;obtain⟨_,_,_,_,s⟩:=v a _ (a9 m);exact s
 |.ptr ci b,l,k,q,u,g,⟨a,S,_,_,_,_,h,t⟩,d=>by
  rcases DataW.trod_pointer h d with⟨rfl,_⟩|⟨e,V,c,C,rfl,rfl,_,r,E⟩
  ·exact⟨none,⟨rfl,rfl⟩,λc d=>by cases d⟩
  rw[DA t] at r;obtain⟨K,j,s⟩:=CK (τ:=b) g t E;obtain⟨y,_,I,B⟩:=DB r t.pos;refine⟨some K,⟨rfl,e.block,e.off,V,by obtain⟨D,co,dl⟩:=e;simp only at y;subst y;rfl,I,j.len,B,j⟩,λc d=>by cases d;exact s⟩
 |.st b,l,k,q,u,g,⟨_,a,L,d5,m,a4,_,_,h,x,_⟩,d=>by
  obtain⟨o,C,rfl,_,av,bs,H⟩:=DataW.trod_struct h d;have G:P.cellsOf l=b.size:=(by unfold Program.cellsOf;rw[m];simp[a4]);obtain⟨c,n,s⟩:=Nq (τ:=b) (fs:=L.toList) (cs:=k) g x (by rw[hE,<-G];exact av) (λJ O x=>by
   have x:L[J]?=some O:=(by simpa using x);have:=H J O x;have ap:J<o.length:=(by rw[bs];exact(lY.1 x).1);rw[a9 ap] at this;exact⟨_,_,this⟩)
  rw[kS] at n;exact⟨c,n,s⟩
 |.osl _,_,_,_,_,g,_,_=>by cases g
 |.optr _,_,_,_,_,g,_,_=>by cases g
 |.pr _ _,_,_,_,_,_,F,_=>F.elim
 |.nil,_,_,_,_,_,F,_=>F.elim
 |.c6,_,_,_,_,g,_,_=>by cases g
theorem Nq:∀{τ:ai} {fs:List Field} {c:Nat} {g cs:ac1},qe τ=true->ha P τ fs c g->cs.length=c+τ.size->(∀(f:Nat) b,fs[f]?=some b->∃(k:Nat) (l:DataW A×List MemPlace),DataW.trod enc P w 0 (λ_=>true) true k b.type ((cs.drop b.offset).take (P.cellsOf b.type))=some l)->∃m:τ.den,aP (yW w) w τ (cs.drop c) m []/\nX τ m
 |.pr z B,b::D,c,g,cs,d,q,e,j=>by simp only[qe,bc] at d;obtain⟨o,h,C,_,p⟩:=q;obtain⟨k,l,i⟩:=j 0 b rfl;rw[o,DA h] at i;obtain⟨x,s,t⟩:=CK d.1 h i;obtain⟨y,u,v⟩:=Nq (cs:=cs) d.2 p (by rw[e];simp only[ai.size];omega) (λf n r=>j (f+1) n r);exact⟨(x,y),⟨[],[],rfl,s,by rw[nN];exact u⟩,t,v⟩
 |.nil,[],c,g,cs,_,_,e,_=>by refine⟨(),⟨rfl,?_⟩,trivial⟩;rw[List.drop_eq_nil_iff];simp only[ai.size] at e;omega
 |.pr _ _,[],_,_,_,_,a,_,_=>a.elim
 |.nil,_::_,_,_,_,_,a,_,_=>a.elim
 |.int _,fs,_,_,_,_,a,_,_=>by cases fs<;>exact a.elim
 |.bool,fs,_,_,_,_,a,_,_=>by cases fs<;>exact a.elim
 |.str,fs,_,_,_,_,a,_,_=>by cases fs<;>exact a.elim
 |.a5 _ _,fs,_,_,_,_,a,_,_=>by cases fs<;>exact a.elim
 |.ptr _ _,fs,_,_,_,_,a,_,_=>by cases fs<;>exact a.elim
 |.osl _,fs,_,_,_,_,a,_,_=>by cases fs<;>exact a.elim
 |.optr _,fs,_,_,_,_,a,_,_=>by cases fs<;>exact a.elim
 |.st _,fs,_,_,_,_,a,_,_=>by cases fs<;>exact a.elim
 |.c6,fs,_,_,_,_,a,_,_=>by cases fs<;>exact a.elim
end
def V7 {g:ai} {h:TypeId} (l:qe g=true) (d:dC P g h) (c:Value.okWide P w .any a h e):e=bG g e.cells.toList:=by
 cases g with
 |int r=>
  obtain⟨f,_,_,_,_,b⟩:=d;obtain⟨i,rfl⟩:=Go.WideShapes.okWide_int b c;rfl
 |bool=>
  obtain⟨f,_,_,_,_,b⟩:=d;obtain⟨i,rfl⟩:=Go.WideShapes.okWide_bool b c;rfl
 |str=>
  obtain⟨f,_,_,_,_,b⟩:=d;obtain⟨i,rfl⟩:=Go.WideShapes.okWide_string b c;rfl
 |a5 m j=>
  obtain⟨f,k,_,_,_,_,b,_⟩:=d;obtain⟨n,s,o,rfl⟩:=Go.WideShapes.okWide_slice b c;rfl
 |ptr m j=>
  obtain⟨f,k,_,_,_,_,b,_⟩:=d;simp only[Value.okWide,b,Cell.okWide] at c;cases e<;>first|rfl|simp_all [Cell.ok]
 |st j=>
  obtain⟨_,f,q,t,_,_,_,_,b,_,_⟩:=d;simp only[Value.okWide,b] at c;obtain⟨p,rfl,_⟩:=c;rfl
 |_=>first|(cases l;done)|exact d.elim
def tL (P:Program):List fu->ac0->Bool
 |[],[]=>true
 |.v a::c,b::d=>qe a&&gp P a b&&tL P c d
 |_,_=>false
def nY:(d:List fu)->fB d->Prop
 |[],_=>True
 |.v e::b,a=>nX e a.1/\nY b a.2
 |.m _::b,a=>nY b a.2
 |.o _::b,a=>nY b a.2
 |.c _ _::b,a=>nY b a.2
 |.n::b,a=>nY b a.2
 |.w _::b,a=>nY b a.2
 |.s _ _::b,a=>nY b a.2
def HU {P:Program}:∀{ps:List fu} {b:ac0} {k:Nat},tL P ps b=true->hT k ps=none
 |[],_,_,_=>rfl
 |.v g::d,e::f,k,a=>by simp only[tL,bc] at a;exact HU (ps:=d) (k:=k+1) a.2
 |.v _::_,[],_,a=>by cases a
 |.m _::_,b,_,a=>by cases b<;>cases a
 |.o _::_,b,_,a=>by cases b<;>cases a
 |.c _ _::_,b,_,a=>by cases b<;>cases a
 |.n::_,b,_,a=>by cases b<;>cases a
 |.w _::_,b,_,a=>by cases b<;>cases a
 |.s _ _::_,b,_,a=>by cases b<;>cases a
def ya {b:Type}:List b->acW
 |[]=>[]
 |_::a=>[]::ya a
def Cp {b:Type}:∀a:List b,(ya a).flatten=[]
 |[]=>rfl
 |_::a=>by simp only[ya,ir,Cp a,fi]
def HW:∀{f:List fu} {l:ac0} {base:Nat} {b:ac1} {i:List (DataW A)} {r:List MemPlace},tL P f l=true->DataW.TrodAll enc P w 0 (λ_=>true) true l b i r->(∀(j:Nat) k g,l[j]?=some k->b[j]?=some g->Value.okWide P w .any base k g)->∃h:fB f,nY f h/\∀{x:Type} (d:g9 f x),kz (vz (λd=>d<w.heap.size) (λ_=>False) w) (eO f h d) b (ya b)
 |[],[],base,b,i,r,_,q,_=>by cases b<;>cases i<;>first|exact⟨(),trivial,λ_=>trivial⟩|exact q.elim
 |.v U::Q,y::x,base,b,i,r,e,q,u=>by
  simp only[tL,bc] at e;obtain⟨⟨s,z⟩,B⟩:=e;obtain⟨g,T,M,N,R,S,rfl,rfl,rfl,p,C⟩:=Go.ChangeShapes.trodAll_cons q;obtain⟨O,p⟩:=p;have t:=gp.ok z;obtain⟨L,I,F⟩:=CK s t p;obtain⟨h,D,E⟩:=HW B C (λj k K G H=>u (j+1) k K (by simpa using G) (by simpa using H));refine⟨(L,h),⟨F,D⟩,λd=>⟨⟨rfl,g.cells.toList,V7 s t (u 0 y g rfl rfl),?_⟩,E d⟩⟩;exact I.mono (λJ d e=>⟨by cases J with
   |bB=>exact e
   |dd=>exact .inl e,bN.refl _ _⟩) ab
 |[],_::_,_,_,_,_,a,_,_=>by cases a
 |.v _::_,[],_,_,_,_,a,_,_=>by cases a
 |.m _::_,_,_,_,_,_,a,_,_=>by cases a
 |.o _::_,_,_,_,_,_,a,_,_=>by cases a
 |.c _ _::_,_,_,_,_,_,a,_,_=>by cases a
 |.n::_,_,_,_,_,_,a,_,_=>by cases a
 |.w _::_,_,_,_,_,_,a,_,_=>by cases a
def Np {P:Program} (k:laidOutB P=true) {i j:World} {o:Nat->Bool}:∀{f:ac0} {e:ac1} {d:List (DataW A)} {c:List MemPlace},(∀h∈f,P.readableRec h=true/\h<P.types.size)->DataW.TrodAll enc P i 0 (λ_=>true) true f e d c->(∀a∈c,i.sameAt j a)->(∀a∈c,o a.block=true)->DataW.TrodAll enc P j 0 o true f e d c
 |[],e,d,c,_,g,_,_=>by cases e<;>cases d<;>first|exact g|exact g.elim
 |T::f,e,d,c,l,g,m,n=>by obtain⟨y,z,w,x,s,t,rfl,rfl,rfl,p,q⟩:=Go.ChangeShapes.trodAll_cons g;obtain⟨u,v⟩:=l T ab;exact⟨s,t,Go.WideElems.Trod_stays k u v p (λa b=>m a (by simp[b])) (λa b=>n a (by simp[b])),Np k (λh r=>l h (by simp[r])) q (λa b=>m a (by simp[b])) (λa b=>n a (by simp[b])),rfl⟩
def Sp {E:dR} {F:hV} {n:ChangeSpec} {T:TypeId} (a4:aB E F) (d2:laidOutB E.P=true) (d7:(k.params.toList.all λd=>E.P.readableRec d&&Nat.blt d E.P.types.size)=true) (X:tL E.P F.ps k.params.toList=true) (_hrs:F.rs=[.bool]) (O:k.resultTypes=#[T]) (v:E.P.underlying T=some .bool) (Z:n.vars=[]) (fp:∀c:List (DataW A),c.length=k.params.toList.length->n.fn A c=⟨[.lit (.bool true)],c,[]⟩) (eq:∀u,nY F.ps u->∃b,F.vo u=some b/\hl F.rs (gI F.ps b)=[⟨.bool,true⟩]) {M a0 co ap:Bool} {q:acZ} {c C:List (DataW A)} {i:List MemPlace} (fs:∀(s:Nat) d p,k.params[s]?=some d->q[s]?=some p->Value.okWide E.P h .any a d p) (Q:DataW.Whole enc E.P k.params.toList n.vars M h q.toList c C i) (bl:jy E (λb=>b<h.heap.size) h):Calls E.P F.f q h λN e=>∃p,N=.returned p/\n.post enc E.P k M a0 co ap h q p e:=by
 have R:=Q;obtain⟨y,fT,D,G,W,cv,d3⟩:=Q;rw[Z] at G;have dl:C=[]/\fT=[]:=by cases C with
  |nil=>exact⟨rfl,G⟩
  |cons=>exact G.elim
 obtain⟨rfl,rfl⟩:=dl;rw[jb] at W;subst W;obtain⟨u,d6,ci⟩:=HW (w:=h) (base:=a) X D (λs d p K L=>fs s d p (by simpa using K) (by simpa using L));obtain⟨b,ce,d9⟩:=eq u d6;have d1:∀{t:ac0} {B:ac1} {c:List (DataW A)} {y:List MemPlace},DataW.TrodAll enc E.P h 0 (λ_=>true) true t B c y->c.length=t.length:=by
  intro t
  induction t with
  |nil=>intro B c y j;cases B<;>cases c<;>first|rfl|exact j.elim
  |cons T t ft=>
   intro B c y j;obtain⟨p,ge,f2,f3,f9,gc,rfl,rfl,rfl,f8,a3⟩:=Go.ChangeShapes.trodAll_cons j;simp[ft a3]
 have H:n.fn A (c++[])=⟨[.lit (.bool true)],c,[]⟩:=(by rw[jb];exact fp c (d1 D));have J:=R.lt;have U:=a4.2 u b ce h (λb=>b<h.heap.size) (λ_=>False) q.toList (ya q.toList) (λb j=>j.elim id (λj=>j.elim)) (ci b) (by rw[Cp];exact List.nodup_nil) (by rw[Cp];simp) (by rw[yl,HU X];trivial);rw[Array.toArray_toList] at U;refine(U bl).mono ?_;rintro N e ⟨f0,f6,x,z,rfl,l⟩;refine⟨_,rfl,?_⟩;have el:ow z=.bool true:=by
  have:=l.res;rw[d9] at this;cases z with
  |nil=>cases x<;>exact this.elim
  |cons p z=>
   cases x with
   |nil=>exact this.elim
   |cons f7 x=>
    obtain⟨⟨f1,L,_,rfl⟩,ek⟩:=this;cases z with
    |nil=>exact L
    |cons=>cases x<;>exact ek.elim
 have I:∀b,b<h.heap.size->e.heap[b]?=h.heap[b]?:=λb v=>l.heap b v (by rw[Cp];simp);have em:∀g∈i,h.sameAt e g:=λg r=>by
  have:=I g.block (J g r);cases g with
  |cell b m=>show e.cell? _=h.cell? _;unfold World.cell?;rw[show e.heap[b]?=h.heap[b]? from this]
  |map b=>exact this
 have cs:∀b m,MemPlace.cell b m∈i->e.frozen? ⟨b,m,none⟩=h.frozen? ⟨b,m,none⟩:=λb m r=>(by unfold World.frozen?;rw[show e.heap[b]?=h.heap[b]? from I b (J _ r)]);rw[el];have d8:∀d∈k.params.toList,E.P.readableRec d=true/\d<E.P.types.size:=λd K=>(by have:=eJ.1 d7 d K;simp only[bc] at this;exact⟨this.1,eM this.2⟩);have S:∀o:Nat->Bool,(∀g∈i,o g.block=true)->DataW.TrodAll enc E.P e 0 o true k.params.toList q.toList (n.fn A (c++[])).args i:=λo ex=>(by rw[H];exact Np d2 d8 D em ex);have Y:∀(b:Nat) (o:Nat->Bool) (V:Bool),DataW.TrodAll enc E.P e b o V k.resultTypes.toList ((Value.bool true).resultList k.resultTypes.size) (n.fn A (c++[])).results []:=λb o V=>(by rw[H,O];exact Go.ChangeShapes.trodAll_mk1 ⟨1,by unfold DataW.trod;rw[v];rfl⟩);have ad:∀o:Nat->Bool,DataW.TrodVars enc E.P e o n.vars (n.fn A (c++[])).vars []:=λo=>(by rw[H,Z];rfl);have d4:∀(s:Nat) (d:TypeId) (an:Value),k.resultTypes[s]?=some d->((Value.bool true).resultList k.resultTypes.size)[s]?=some an->Value.okWide E.P e .any 0 d an:=
  Go.RowKit.ok_one O rfl (Go.RowKit.okWide_bool_mk v true)
 have d5:∀g∈i,(λb=>decide (b<h.heap.size)) g.block=true:=λg r=>(by simpa using J g r);have d0:h.keptBut e (λ_=>False):=by
  refine⟨l.os,l.output,λam ds=>?_⟩;rw[I am ds];cases h.heap[am]? with
  |none=>rfl
  |some fz=>cases fz with
   |cells av d f5=>exact⟨rfl,rfl,rfl,λ_ _=>rfl⟩
   |map f4 av=>exact .inr ⟨rfl,rfl⟩
   |_=>rfl
 refine⟨c,[],i,[],i,[],R,Y _ _ _,S _ d5,ad _,World.keptBut_mono (λ_ j=>j.elim) d0,λ_=>?_⟩;refine⟨d4,_,_,([]++i)++[],⟨[]++i,[],Go.ChangeShapes.trodAll_append (S _ (λ_ _=>rfl)) (Y _ _ _),ad _,rfl,?_,?_⟩,?_⟩
 ·intro b m l;have l:MemPlace.cell b m∈i:=(by simpa using l);rw[cs b m l];exact cv b m l
 ·intro bs;simpa using d3 bs
 intro g r _;simpa using r
end
end
section
inductive C0 where
 |a
 |b (f:ac7)
 |c (f m:ac7)
def Eb (a:Nat):Nat:=a/32+a %32*500000
abbrev WS (a:Nat):Nat×mU:=(a,.s (.ref a []))
abbrev GP (a:Nat):Nat×mU:=(a,.v (.int .i64))
inductive mO where
 |l
 |o (a:mO)
 |t (j:C4) (a b:mO)
 |n (b:mO)
 |p (yq:lx) (m:C5) (a:mO)
 |k (l:ac7) (a:mO)
 |z (F:ac7) (a:mO)
 |d (L:List C0)
def Cv (b:Array Oper) (a:Nat) (f c:ac7):j9:=match b[a]? with
 |some d=>⟨a,dl d,d.looksAt b,ou b a,f,c⟩
 |none=>⟨a,[],[],[],f,c⟩
def Be (d:Array Oper):Nat->List C0->List j9
 |_,[]=>[]
 |i,.a::e=>Cv d i [] []::Be d (i+1) e
 |i,.b f::e=>Cv d i (f.map Eb) []::Be d (i+1) e
 |i,.c f g::e=>Cv d i (f.map Eb) (g.map Eb)::Be d (i+1) e
def qD:Code->kO
 |.seq a b=>.two .none (qD a) (qD b)
 |.cond _ a b=>.two .none (qD a) (qD b)
 |.block _ a=>.one (qD a)
 |.region _ c true=>.draw ((List.range c.size).map λd=>Cv c d [] [])
 |_=>.leaf
def mO.ex:mO->Code->kO
 |.l,a=>qD a
 |.o b,.block _ a=>.one (b.ex a)
 |.t J b c,.seq a e=>.two J (b.ex a) (c.ex e)
 |.t J b c,.cond _ a e=>.two J (b.ex a) (c.ex e)
 |.n c,.seq a e=>.two .none (qD a) (c.ex e)
 |.n c,.cond _ a e=>.two .none (qD a) (c.ex e)
 |.p j h b,.loop a=>.loop j h (b.ex a)
 |.k f b,a=>.keep f (b.ex a)
 |.z g b,a=>.na g (b.ex a)
 |.d f,.region _ i _=>.draw (Be i 0 f)
 |_,_=>.leaf
def vU (E:dR):Type:={a:List (Nat×hV)//∀b∈a,aB E b.2}
def aD {E:dR}:vU E:=⟨[],Ni⟩
def ah {E:dR} {a:hV} (c:aB E a) (b:vU E):vU E:=⟨(a.f,a)::b.1,YE c b.2⟩
section
variable {E:dR} {f:Nat} {fn:Func} {ps:List fu} {C:List ai} {D:fB ps->Option (g9 ps (j1 C))}
def aB.q (d:vU E) (l:mO) (k:E.P.funcs[f]?=some fn) (j:∀(h:acZ) (i:World),(callFunc f h).run E.P i=.ok (.enter f h) i) (g:List (Nat×ai):=[]) (e:ac9:=[]) (a:(fn.body.isSome&&Nat.ble ps.length fn.ntmps)=true:=by kernel_rfl) (c:∀b,xo ⟨E.tt,d.1,g,fn.ntmps,ih 0 ps++lS (hT 0 ps),[],e,hT 0 ps,[],[],E.glob⟩ (l.ex (fn.body.getD .skip)) (fn.body.getD .skip) ps fn.results.toList C b=D b:=by intro b;kernel_rfl):aB E ⟨f,ps,C,D⟩:=
 have a:=bc _ _▸a
 aB.KS d.1 g e _ [] (λ_ c=>by cases c) k a.1 Array.toArray_toList.symm a.2 j d.2 c
end
end
def jr (a:Nat):Nat×Nat:=bif Nat.blt (a %32) 28 then(a %32,a/32) else bif Nat.beq (a %32) 31 then(a/32 %16777216,a/536870912) else((a %32-28)*256+a/32 %256+28,a/8192)
def lO {c:Type} (b:Nat->c×Nat):Nat->Nat->List c×Nat
 |0,a=>([],a)
 |k+1,a=>match a %2 with
  |0=>([],a/2)
  |_=>match b (a/2) with
   |(x,t)=>match lO b k t with
    |(l,u)=>(x::l,u)
def Gc (a:List ai) (b:Nat):ai×Nat:=match jr b with
 |(i,t)=>(a.getD i .nil,t)
def lP {a b:Type} (c:Nat->a×Nat) (d:Nat->b×Nat) (e:Nat):(a×b)×Nat:=match c e with
 |(x,t)=>match d t with
  |(y,u)=>((x,y),u)
def W1 (b:List ai) (a:Nat):(Nat×mU)×Nat:=match a %4 with
 |0=>match jr (a/4) with
  |(k,t)=>(WS k,t)
 |1=>match jr (a/4) with
  |(k,t)=>(GP k,t)
 |2=>match lP jr (Gc b) (a/4) with
  |((k,x),t)=>((k,.v x),t)
 |_=>match lP jr jr (a/4) with
  |((k,x),t)=>((k,.s (.ref x [])),t)
def x8 (a:List ai) (b:Nat):lx×Nat:=match lP (lO (W1 a) 99) (lO (lP jr (Gc a)) 99) b with
 |((x,y),t)=>(⟨x,y⟩,t)
def W0 (b:List ai) (a:Nat):C4×Nat:=match a %3 with
 |0=>(.none,a/3)
 |1=>match lP (lO jr 99) (x8 b) (a/3) with
  |((x,y),t)=>(.x x y,t)
 |_=>match lP (lO jr 99) (x8 b) (a/3) with
  |((x,y),t)=>(.te x y,t)
def W2 (b:List ai) (a:Nat):C5×Nat:=match a %3 with
 |0=>(.r,a/3)
 |1=>match lP jr (x8 b) (a/3) with
  |((x,y),t)=>(.x x y,t)
 |_=>match lP jr (x8 b) (a/3) with
  |((x,y),t)=>(.te x y,t)
def Ga (a:Nat):Nat×Nat:=match a %2 with
 |0=>match jr (a/2) with
  |(k,t)=>(k*32,t)
 |_=>match jr (a/64) with
  |(k,t)=>(k*32+a/2 %32,t)
def WZ (d:Nat):C0×Nat:=match d %3 with
 |0=>(.a,d/3)
 |1=>match lO Ga 99 (d/3) with
  |(x,t)=>(.b x,t)
 |_=>match lP (lO Ga 99) (lO Ga 99) (d/3) with
  |((x,y),t)=>(.c x y,t)
def q8 (e:List ai):Nat->Nat->mO×Nat
 |0,c=>(.l,c)
 |k+1,c=>match c %8 with
  |0=>(.l,c/8)
  |1=>match q8 e k (c/8) with
   |(a,t)=>(.o a,t)
  |2=>match W0 e (c/8) with
   |(f,t)=>match q8 e k t with
    |(a,t)=>match q8 e k t with
     |(b,t)=>(.t f a b,t)
  |3=>match q8 e k (c/8) with
   |(a,t)=>(.n a,t)
  |4=>match lP (x8 e) (W2 e) (c/8) with
   |((x,y),t)=>match q8 e k t with
    |(a,t)=>(.p x y a,t)
  |5=>match lO jr 99 (c/8) with
   |(x,t)=>match q8 e k t with
    |(a,t)=>(.k x a,t)
  |6=>match lO jr 99 (c/8) with
   |(x,t)=>match q8 e k t with
    |(a,t)=>(.z x a,t)
  |_=>match lO WZ 999 (c/8) with
   |(x,t)=>(.d x,t)
def Gb (b:List ai) (c:Nat):mO×List (Nat×ai)×ac9:=match q8 b 999 c with
 |(a,t)=>match lP (lO (lP jr (Gc b)) 99) (lO (lP jr jr) 99) t with
  |((x,y),_)=>(a,x,y)
def PH {b:Program} (h:b.funcs[a]?=some k) (i:(k.name=="runtime.NumGoroutine")=false) (g:k.body.isSome=true) (c:acZ) (d:World):(callFunc a c).run b d=.ok (.enter a c) d:=by have e:k.name≠"runtime.NumGoroutine":=(by simpa using i);obtain⟨j,f⟩:=Db.1 g;simp[callFunc,h,e,f,Sem.run]
section
def ac {α:Type} (c:Option α) (b:α->Prop):Prop:=∃a,c=some a/\b a
section
variable {α A σ ρ τ:Type}
def ac.af {b:α} {c:α->Prop}:ac (some b) c↔c b:=⟨λ⟨_,a,d⟩=>by cases a;exact d,λa=>⟨b,rfl,a⟩⟩
def ac.pD {a:α->Prop}:ac none a↔False:=⟨(λ⟨_,b,_⟩=>by cases b),False.elim⟩
def ac.bT {x:Option α} {b:α->Option A} {a:A->Prop}:ac (x.bind b) a↔ac x (λc=>ac (b c) a):=by
 cases x with
 |none=>simp only[Option.bind_none,ac.pD]
 |some c=>simp only[aG,ac.af]
def ac.xI {a:Option α} {c:α->A} {b:A->Prop}:ac (a.map c) b↔ac a (λd=>b (c d)):=by
 cases a with
 |none=>simp only[Option.map_none,ac.pD]
 |some d=>simp only[fd,ac.af]
def ac.bS {b:Bool} {c d:Option α} {a:α->Prop}:ac (bif b then c else d) a↔(b=true->ac c a)/\(b=false->ac d a):=by cases b<;>simp
def ac.mono {c:Option α} {P b:α->Prop} (d:ac c P) (g:∀a,P a->b a):ac c b:=let⟨a,e,f⟩:=d;⟨a,e,g a f⟩
def ac.eq_iff {c:Option α} {b:α}:ac c (· =b)↔c=some b:=⟨λ⟨e,a,d⟩=>by rw[a,d],λa=>⟨b,a,rfl⟩⟩
def ac.Ju {b:List α} {e:α->Prop}:ac (ax b d) e↔∃(f:d.toNat<b.length),0<=d/\e b[d.toNat]:=by
 unfold ax;by_cases a:0<=d
 ·rw[aj a];by_cases c:d.toNat<b.length
  ·rw[a9 c,ac.af];simp[c,a]
  rw[fc U,ac.pD];simp[c]
 rw[ag a,ac.pD];simp[a]
def ac.hy {b:List α} {c:α->Prop}:ac (ax b (a:Int)) c↔∃(d:a<b.length),c b[a]:=by rw[ac.Ju];simp
def ac.oh:ac (bk a d) l↔(0<=d/\d.toNat<a)/\l d.toNat:=by
 unfold bk;by_cases b:0<=d/\d.toNat<a
 ·rw[aj b,ac.af];simp[b]
 rw[ag b,ac.pD];simp[b]
def ac.qN {c:Unit->Prop}:ac (bJ a) c↔a<=e7/\c ():=by
 unfold bJ;by_cases b:a<=e7
 ·rw[aj b,ac.af];simp[b]
 rw[ag b,ac.pD];simp[b]
def ac.u0 {a:Int}:ac (dI d a) l↔(0<=d/\d<=a/\a<=(e7:Int))/\l d.toNat:=by
 unfold dI;by_cases b:0<=d/\d<=a/\a<=(e7:Int)
 ·rw[aj b,ac.af];simp[b]
 rw[ag b,ac.pD];simp[b]
def bd (d:List α) (c:Nat) (b:α->Option A):Option A:=match d[c]? with
 |some a=>b a
 |none=>none
def ac.n6 {c:List α} {e:α->Option A} {d:A->Prop}:ac (bd c a e) d↔∃(b:a<c.length),ac (e c[a]) d:=by
 unfold bd;by_cases b:a<c.length
 ·rw[a9 b];simp[b]
 rw[fc U];simp[b,ac.pD]
def ac.loop {j:σ->Option (σ⊕ρ)} {i:ρ->Prop} (g:σ->Prop) (h:σ->Nat) {a:σ} (n:g a) (m:∀a,g a->ac (j a) (λ|.inl f=>g f/\h f<h a|.inr b=>i b)):ac (loop j a) i:=by
 have s:∀e a,h a<=e->g a->∃b,hN j (e+1) a=some b/\i b:=by
  intro e
  induction e with
  |zero=>
   intro a q k;obtain⟨l,d,c⟩:=m a k;cases l with
   |inl f=>have:=c.2;omega
   |inr b=>exact⟨b,by simp only[hN,d],c⟩
  |succ e r=>
   intro a q k;obtain⟨l,d,c⟩:=m a k;cases l with
   |inl f=>
    obtain⟨b,o,p⟩:=r f (by have:=c.2;omega) c.1;exact⟨b,by rw[hN,d];exact o,p⟩
   |inr b=>exact⟨b,by simp only[hN,d],c⟩
 obtain⟨b,d,c⟩:=s (h a) a (a6 _) n;exact⟨b,uW.2 ⟨_,d⟩,c⟩
def ac.for {j:Int×τ->Option ((Int×τ)⊕ρ)} {i:ρ->Prop} (b:Nat) (e:Nat->τ->Prop) {i0:Nat} {p:τ} (t:d=(i0:Int)) (q:e i0 p) (n:i0<=b) (v:∀a c,i0<=a->a<b->e a c->ac (j ((a:Int),c)) (λ|.inl k=>k.1=((a+1:Nat):Int)/\e (a+1) k.2|.inr g=>i g)) (s:∀c,e b c->ac (j ((b:Int),c)) (λ|.inl _=>False|.inr g=>i g)):ac (ia.loop j (d,p)) i:=by
 subst t;refine ac.loop (λh=>∃a:Nat,i0<=a/\a<=b/\h.1=(a:Int)/\e a h.2) (λh=>b-h.1.toNat) ⟨i0,a6 _,n,rfl,q⟩ ?_;rintro⟨w,c⟩ ⟨a,u,n,rfl,o⟩;rcases bn a b with m|m
 ·refine(v a c u m o).mono ?_;rintro(⟨x,y⟩|g) f
  ·obtain⟨l,r⟩:=f;simp only at l;subst l;exact⟨⟨a+1,U,U,rfl,r⟩,by show b-Int.toNat _<b-Int.toNat _;simp;omega⟩
  exact f
 obtain rfl:a=b:=U;refine(s c o).mono ?_;rintro(k|g) f
 ·exact f.elim
 exact f
end
def Zi (a:Int):IntKind.i64.wrap a=if(9223372036854775808:Int)<=a %18446744073709551616 then a %18446744073709551616-18446744073709551616 else a %18446744073709551616:=by
 unfold IntKind.wrap;by_cases b:(9223372036854775808:Int)<=a %18446744073709551616
 ·rw[aj b];exact aj (show(true&&decide (a %18446744073709551616>=(9223372036854775808:Int)))=true by simp[b])
 rw[ag b];exact ag (show¬(true&&decide (a %18446744073709551616>=(9223372036854775808:Int)))=true by simp[b])
def wrap64 {x:Int} (a:-9223372036854775808<=x) (b:x<=9223372036854775807):IntKind.i64.wrap x=x:=by rw[Zi];split<;>omega
def fm (b:a<9223372036854775807):IntKind.i64.wrap ((a:Int)+1)=((a+1:Nat):Int):=by rw[wrap64 U U];simp
end
section
abbrev ar {α:Type} (a:List α):Int:=((a.length:Nat):Int)
abbrev aq (a:Int):Int:=IntKind.i64.wrap a
abbrev aJ (a:Int):Int:=IntKind.u64.wrap a
abbrev bX (a:Int):Int:=IntKind.u32.wrap a
abbrev aQ (a:Int):Int:=IntKind.i64.wrap (a+1)
def rd {α A:Type} (a:List α) (c:Int) (e:α->Option A):Option A:=(bk a.length c).bind λd=>(bd a d λb=>some b).bind e
def wr {α A:Type} (a:List α) (c:Int) (e:α) (d:List α->Option A):Option A:=(bk a.length c).bind λb=>(bd a b λ_=>some (a.set b e)).bind d
section
variable {α A:Type}
def iZ {b:List α} (d:a<b.length) (c:α->Option A):rd b (a:Int) c=c b[a]:=by unfold rd bk;rw[aj ⟨U,by simpa using d⟩];show(bd b (a:Int).toNat _).bind c=_;unfold bd;rw[bY,a9 d];rfl
def W3 {b:List α} {c:α} (f:0<=d) (e:b[d.toNat]?=some c) (a:α->Option A):rd b d a=a c:=by obtain⟨g,h⟩:=ec.1 e;obtain⟨j,rfl⟩:=eE f;have i:j<b.length:=g;exact(iZ i a).trans (congrArg a h)
def i6 {b:List α} (d:a<b.length) (e:α) (c:List α->Option A):wr b (a:Int) e c=c (b.set a e):=by unfold wr bk;rw[aj ⟨U,by simpa using d⟩];show(bd b (a:Int).toNat _).bind c=_;unfold bd;rw[bY,a9 d];rfl
end
end
def zS:cP->ac5:=λ(e,h,_)=>(loop (σ:=cZ) (ρ:=cS) (λ(f,c,_)=>bif decide (c<((e.length:Nat):Int)) then(Option.bind (α:=c1⊕cx) ((ax e c).bind λd=>Option.bind (α:=Unit⊕(c1⊕cx)) (cond (decide (d<=f)==false) (cond (decide (d>=h)) (some (.inr (.inr (.inr (.inr (false,())))))) (some (.inl ()))) (some (.inr (.inr (.inr (.inr (false,()))))))) λa=>match a with
 |.inl _=>(some (.inl (d,())))
 |.inr b=>some b) λa=>match a with
 |.inl (g,_)=>(some (.inl (g,IntKind.i64.wrap (c+(1:Int)),())))
 |.inr b=>some b) else some (.inr (.inl ()))) ((-1:Int),(0:Int),())).bind λa=>match a with
 |.inl _=>(some (true,()))
 |.inr b=>some b
def qm:c1->ac5:=λ(a,_)=>some ((a !=a),())
def rV:cZ->ac5:=λ(a,b,_)=>(qm (a,())).bind λ(c,_)=>(cond (c==true) ((qm (b,())).bind λ(aK,_)=>cond ((!aK)==false) (some (decide (a<b),())) (some (true,()))) (some (decide (a<b),())))
def An:c1->ac5:=λ(a,_)=>some ((a !=a),())
def r3:cP->Option cW:=λ(b,e,_)=>(loop (σ:=cZ) (ρ:=c1) (λ(c,d,_)=>cond (decide (c<d)) ((da IntKind.u64 (IntKind.u64.wrap (IntKind.i64.wrap (c+d))) (1:Int)).bind λf=>(ax b (IntKind.i64.wrap f)).bind λk=>(rV (k,e,())).bind λ(i,_)=>cond i (some (.inl (IntKind.i64.wrap (IntKind.i64.wrap f+(1:Int)),d,()))) (some (.inl (c,IntKind.i64.wrap f,())))) (some (.inr (c,())))) ((0:Int),((b.length:Nat):Int),())).bind λ(a,_)=>(cond (decide (a<((b.length:Nat):Int))==true) ((ax b a).bind λl=>cond ((l==e)==false) ((ax b a).bind λj=>(An (j,())).bind λ(g,_)=>cond (g==true) ((An (e,())).bind λ(h,_)=>some (a,h,())) (some (a,false,()))) (some (a,true,()))) (some (a,false,())))
def ug:(cL×Int×Int×Unit)->ac5:=λ(a,c,d,_)=>(ax a.1 c).bind λe=>(r3 (e,d,())).bind λ(_,b,_)=>some (b,())
def uf:cE->ac6:=λ(a,_)=>(bif decide ((((a.1).length:Nat):Int)>(200:Int)) then some ((6:Int),()) else((loop (σ:=c1) (ρ:=cU) (λ(d,_)=>bif decide (d<(((a.1).length:Nat):Int)) then(Option.bind (α:=Unit⊕cD) ((ax a.1 d).bind λj=>(zS (j,(((a.1).length:Nat):Int),())).bind λ(aK,_)=>cond ((!aK)==false) ((ug (a,d,d,())).bind λ(i,_)=>cond i (some (.inr (.inr (.inr ((1:Int),()))))) (some (.inl ()))) (some (.inr (.inr (.inr ((1:Int),())))))) λb=>match b with
 |.inl _=>(some (.inl (IntKind.i64.wrap (d+(1:Int)),())))
 |.inr c=>some c) else some (.inr (.inl ()))) ((0:Int),())).bind λb=>match b with
 |.inl _=>((loop (σ:=c1) (ρ:=cU) (λ(e,_)=>bif decide (e<(((a.1).length:Nat):Int)) then((ax a.1 e).bind λg=>(loop (σ:=c1) (ρ:=ct) (λ(f,_)=>cond (decide (f<((g.length:Nat):Int))) ((ax g f).bind λk=>(ug (a,k,e,())).bind λ(h,_)=>cond (!h) (some (.inr (.inr (.inr (.inr ((1:Int),())))))) (some (.inl (IntKind.i64.wrap (f+(1:Int)),())))) (some (.inr (.inl ())))) ((0:Int),())).bind λb=>match b with
 |.inl _=>(some (.inl (IntKind.i64.wrap (e+(1:Int)),())))
 |.inr c=>some c) else some (.inr (.inl ()))) ((0:Int),())).bind λb=>match b with
 |.inl _=>(some ((0:Int),()))
 |.inr c=>some c)
 |.inr c=>some c))
def zN:c1->Option cz:=λ(b,_)=>(dI b b).bind λh=>(dI b b).bind λi=>(loop (σ:=cu) (ρ:=cz) (λ(d,a,_)=>cond (decide (d<b)) ((bk (a.1).length d).bind λf=>((bd a.1 f λ_=>some ((a.1).set f (-1:Int))).map λm=>(m,a.2)).bind λc=>(bk (c.2.1).length d).bind λe=>(((bd c.2.1 e λ_=>some ((c.2.1).set e (-1:Int))).map λj=>(j,c.2.2)).map λk=>(c.1,k)).bind λl=>some (.inl (IntKind.i64.wrap (d+(1:Int)),l,()))) (some (.inr (a,())))) ((0:Int),(List.replicate h (0:Int),(List.replicate i (0:Int),())),())).bind λ(g,_)=>some (g,())
def zM:(cH×Int×Int×Unit)->Option cz:=λ(j,m,e,_)=>(loop (σ:=cu) (ρ:=cz) (λ(b,d,_)=>Option.bind (α:=cz⊕(cu⊕cz)) (cond ((b !=(-1:Int))==true) (cond (decide (b<e)) (some (.inl (d,()))) (some (.inr (.inr (d,()))))) (some (.inr (.inr (d,()))))) λo=>match o with
 |.inl (a,_)=>((bk (a.2.1).length b).bind λn=>(bd a.2.1 n λi=>some i).bind λh=>(bk (a.2.1).length b).bind λf=>(((bd a.2.1 f λ_=>some ((a.2.1).set f e)).map λq=>(q,a.2.2)).map λr=>(a.1,r)).bind λc=>Option.bind (α:=cz) (cond (h==(-1:Int)) ((bk (c.1).length b).bind λg=>((bd c.1 g λ_=>some ((c.1).set g e)).map λs=>(s,c.2)).bind λt=>some (t,())) (some (c,()))) λ(k,_)=>some (.inl (h,k,())))
 |.inr p=>some p) (m,j,())).bind λ(l,_)=>some (l,())
def zL:cE->Option cP:=λ(a,_)=>(uf (a,())).bind λ(f,_)=>(cond (f !=(0:Int)) (some ([],f,())) ((zN ((((a.1).length:Nat):Int),())).bind λ(k,_)=>(loop (σ:=cu) (ρ:=cz) (λ(b,d,_)=>cond (decide (b<(((a.1).length:Nat):Int))) ((ax a.1 b).bind λg=>(loop (σ:=cu) (ρ:=cz) (λ(c,e,_)=>cond (decide (c<((g.length:Nat):Int))) ((ax g c).bind λl=>(zM (e,l,b,())).bind λ(j,_)=>some (.inl (IntKind.i64.wrap (c+(1:Int)),j,()))) (some (.inr (e,())))) ((0:Int),d,())).bind λ(h,_)=>some (.inl (IntKind.i64.wrap (b+(1:Int)),h,()))) (some (.inr (d,())))) ((0:Int),k,())).bind λ(i,_)=>some (i.1,(0:Int),())))
def A8:(cL×ac8×Int×Unit)->Option cX:=λ(q,x,b,_)=>(dI (IntKind.i64.wrap (b+(1:Int))) (IntKind.i64.wrap (b+(1:Int)))).bind λh=>(bk (List.replicate h false).length b).bind λj=>(bd (List.replicate h false) j λ_=>some ((List.replicate h false).set j true)).bind λE=>(ax q.1 b).bind λn=>(loop (σ:=cN) (ρ:=cV) (λ(i,l,_)=>bif decide (i<((n.length:Nat):Int)) then(ax n i).bind λA=>(loop (σ:=cN) (ρ:=cV) (λ(c,a,_)=>Option.bind (α:=cV⊕cn) (cond (decide (c>=(0:Int))==true) (cond (decide (c<b)==true) ((bk a.length c).bind λr=>(bd a r λo=>some o).bind λB=>cond (!B) (some (.inl (a,()))) (some (.inr (.inr (a,()))))) (some (.inr (.inr (a,()))))) (some (.inr (.inr (a,()))))) λy=>match y with
 |.inl (g,_)=>((bk g.length c).bind λk=>(bd g k λ_=>some (g.set k true)).bind λF=>(ax x c).bind λC=>some (.inl (C,F,())))
 |.inr z=>some z) (A,l,())).bind λ(t,_)=>some (.inl (IntKind.i64.wrap (i+(1:Int)),t,())) else some (.inr (l,()))) ((0:Int),E,())).bind λ(m,_)=>(loop (σ:=(Int×ac4×ac8×Unit)) (ρ:=cX) (λ(d,e,f,_)=>cond (decide (d<((m.length:Nat):Int))) (Option.bind (α:=(ac4×ac8×Unit)) ((bk e.length d).bind λs=>(bd e s λp=>some p).bind λD=>cond D ((bJ (f.length+([d]).length)).bind λ_=>some (e,(f++[d]),())) (some (e,f,()))) λ(u,v,_)=>some (.inl (IntKind.i64.wrap (d+(1:Int)),u,v,()))) (some (.inr (f,())))) ((0:Int),m,[],())).bind λ(w,_)=>some (w,())
def A7:cE->Option cI:=λ(g,_)=>(zL (g,())).bind λ(d,j,_)=>(bif j !=(0:Int) then some ([],j,()) else(dI ((d.length:Nat):Int) ((d.length:Nat):Int)).bind λq=>(loop (σ:=(Int×acX×Unit)) (ρ:=cL) (λ(b,i,_)=>bif decide (b<((d.length:Nat):Int)) then(A8 (g,d,b,())).bind λ(k,_)=>(loop (σ:=(Int×acX×ac8×Unit)) (ρ:=cL) (λ(e,a,f,_)=>bif decide (e<((k.length:Nat):Int)) then(bk f.length e).bind λp=>(bd f p λm=>some m).bind λl=>(bk a.length l).bind λh=>(bd a h λn=>some n).bind λt=>(bJ (t.length+([b]).length)).bind λ_=>(bk a.length l).bind λc=>bif Nat.beq h c&&true then(bd a c λo=>some o).bind λu=>(bd a c λ_=>some (a.set c (u++[b]))).bind λv=>
 some (.inl (IntKind.i64.wrap (e+(1:Int)),v,f,())) else none else some (.inr (a,()))) ((0:Int),i,k,())).bind λ(r,_)=>some (.inl (IntKind.i64.wrap (b+(1:Int)),r,())) else some (.inr (i,()))) ((0:Int),List.replicate q [],())).bind λ(s,_)=>some (s,(0:Int),()))
def r6:(ac8×ac8×Unit)->ac5:=λ(b,c,_)=>(bif ((b.length:Nat):Int)!=((c.length:Nat):Int) then some (false,()) else((loop (σ:=c1) (ρ:=cS) (λ(a,_)=>cond (decide (a<((b.length:Nat):Int))) ((ax b a).bind λf=>(ax c a).bind λg=>cond (f !=g) (some (.inr (.inr (false,())))) (some (.inl (IntKind.i64.wrap (a+(1:Int)),())))) (some (.inr (.inl ())))) ((0:Int),())).bind λd=>match d with
 |.inl _=>(some (true,()))
 |.inr e=>some e))
def wK:cX->ac5:=λ(b,_)=>(loop (σ:=c1) (ρ:=cS) (λ(a,_)=>cond (decide (a<((b.length:Nat):Int))) ((ax b a).bind λe=>(ax b (IntKind.i64.wrap (a-(1:Int)))).bind λf=>cond (decide (e<=f)) (some (.inr (.inr (false,())))) (some (.inl (IntKind.i64.wrap (a+(1:Int)),())))) (some (.inr (.inl ())))) ((1:Int),())).bind λc=>match c with
 |.inl _=>(some (true,()))
 |.inr d=>some d
def wW:cJ->Option cE:=λ(f,_)=>(loop (σ:=b8) (ρ:=b9) (λ(b,l,i,_)=>bif decide (b<((f.length:Nat):Int)) then(loop (σ:=(Int×cL×cL×ac8×Unit)) (ρ:=b5) (λ(a,e,c,d,_)=>bif decide (a<((f.length:Nat):Int)) then Option.bind (α:=b5) (Option.bind (α:=(Bool×cL×cL×ac8×Unit)) (cond ((b !=a)==true) ((ax f b).bind λt=>(ax t a).bind λu=>cond (u==false) ((ax f a).bind λv=>(ax v b).bind λw=>some (w,e,c,d,())) (some (true,e,c,d,()))) (some (false,e,c,d,()))) λ(q,m,j,h,_)=>
 cond q ((bJ (h.length+([a]).length)).bind λ_=>some (m,j,(h++[a]),())) (some (m,j,h,()))) λ(r,n,p,_)=>some (.inl (IntKind.i64.wrap (a+(1:Int)),r,n,p,())) else some (.inr (e,c,d,()))) ((0:Int),l,i,[],())).bind λ(s,g,k,_)=>(bJ ((g.1).length+([k]).length)).bind λ_=>some (.inl (IntKind.i64.wrap (b+(1:Int)),s,((g.1++[k]),g.2),())) else some (.inr (l,i,()))) ((0:Int),([],()),([],()),())).bind λ(_,o,_)=>some (o,())
def qr:cP->ac5:=λ(b,e,_)=>(loop (σ:=c1) (ρ:=cS) (λ(a,_)=>cond (decide (a<((b.length:Nat):Int))) ((ax b a).bind λf=>cond (f==e) (some (.inr (.inr (true,())))) (some (.inl (IntKind.i64.wrap (a+(1:Int)),())))) (some (.inr (.inl ())))) ((0:Int),())).bind λc=>match c with
 |.inl _=>(some (false,()))
 |.inr d=>some d
def r8:cE->ac6:=λ(a,_)=>(bif decide ((((a.1).length:Nat):Int)>(200:Int)) then some ((6:Int),()) else((loop (σ:=c1) (ρ:=cU) (λ(b,_)=>bif decide (b<(((a.1).length:Nat):Int)) then(ax a.1 b).bind λh=>(wK (h,())).bind λ(aK,_)=>bif !aK then some (.inr (.inr ((1:Int),()))) else((loop (σ:=c1) (ρ:=ct) (λ(f,_)=>(ax a.1 b).bind λi=>bif decide (f<((i.length:Nat):Int)) then(Option.bind (α:=Unit⊕cb) ((ax a.1 b).bind λj=>(ax j f).bind λe=>cond (decide (e<(0:Int))==false) (cond (decide (e>=(((a.1).length:Nat):Int))==false) (cond ((e==b)==false) ((ax a.1 e).bind λk=>(qr (k,b,())).bind λ(g,_)=>cond (!g) (some (.inr (.inr (.inr (.inr (.inr ((1:Int),()))))))) (some (.inl ()))) (some (.inr (.inr (.inr (.inr (.inr ((1:Int),())))))))) (some (.inr (.inr (.inr (.inr (.inr ((1:Int),())))))))) (some (.inr (.inr (.inr (.inr (.inr ((1:Int),())))))))) λc=>match c with
 |.inl _=>(some (.inl (IntKind.i64.wrap (f+(1:Int)),())))
 |.inr d=>some d) else some (.inr (.inl ()))) ((0:Int),())).bind λc=>match c with
 |.inl _=>(some (.inl (IntKind.i64.wrap (b+(1:Int)),())))
 |.inr d=>some d) else some (.inr (.inl ()))) ((0:Int),())).bind λc=>match c with
 |.inl _=>(some ((0:Int),()))
 |.inr d=>some d))
def AS:cP->ac5:=λ(b,e,_)=>(loop (σ:=c1) (ρ:=cS) (λ(a,_)=>bif decide (a<((b.length:Nat):Int)) then(Option.bind (α:=Unit⊕cC) ((ax b a).bind λf=>cond (decide (f<(0:Int))==false) ((ax b a).bind λg=>cond (decide (g>=e)) (some (.inr (.inr (.inr (false,()))))) (some (.inl ()))) (some (.inr (.inr (.inr (false,())))))) λc=>match c with
 |.inl _=>(some (.inl (IntKind.i64.wrap (a+(1:Int)),())))
 |.inr d=>some d) else some (.inr (.inl ()))) ((0:Int),())).bind λc=>match c with
 |.inl _=>(some (true,()))
 |.inr d=>some d
def AT:cX->ac5:=λ(b,_)=>(loop (σ:=c1) (ρ:=cS) (λ(a,_)=>cond (decide (a<((b.length:Nat):Int))) (((some (0)).bind λc=>(e9 a).bind λd=>(fy c d b.length).map λ_=>(c,d)).bind λe=>(ax b a).bind λi=>(qr (((b.take e.2).drop e.1),i,())).bind λ(h,_)=>cond h (some (.inr (.inr (true,())))) (some (.inl (IntKind.i64.wrap (a+(1:Int)),())))) (some (.inr (.inl ())))) ((0:Int),())).bind λf=>match f with
 |.inl _=>(some (false,()))
 |.inr g=>some g
def wY:cE->Option cJ:=λ(a,_)=>(loop (σ:=cF) (ρ:=cJ) (λ(c,g,_)=>cond (decide (c<(((a.1).length:Nat):Int))) ((dI (((a.1).length:Nat):Int) (((a.1).length:Nat):Int)).bind λj=>(loop (σ:=(Int×acV×ac4×Unit)) (ρ:=(acV×ac4×Unit)) (λ(d,h,b,_)=>(ax a.1 c).bind λm=>cond (decide (d<((m.length:Nat):Int))) ((ax a.1 c).bind λn=>(ax n d).bind λl=>(bk b.length l).bind λe=>(bd b e λ_=>some (b.set e true)).bind λo=>some (.inl (IntKind.i64.wrap (d+(1:Int)),h,o,()))) (some (.inr (h,b,())))) ((0:Int),g,List.replicate j false,())).bind λ(f,i,_)=>(bJ (f.length+([i]).length)).bind λ_=>some (.inl (IntKind.i64.wrap (c+(1:Int)),(f++[i]),()))) (some (.inr (g,())))) ((0:Int),[],())).bind λ(k,_)=>
 some (k,())
def wZ:c1->Option cJ:=λ(a,_)=>(loop (σ:=cF) (ρ:=cJ) (λ(c,b,_)=>cond (decide (c<a)) ((dI a a).bind λd=>(bJ (b.length+([List.replicate d false]).length)).bind λ_=>some (.inl (IntKind.i64.wrap (c+(1:Int)),(b++[List.replicate d false]),()))) (some (.inr (b,())))) ((0:Int),[],())).bind λ(e,_)=>some (e,())
def AV:cq->Option cA:=λ(e,a,_)=>(r8 (e,())).bind λ(j,_)=>(bif j !=(0:Int) then some (([],()),j,()) else(AS (a,(((e.1).length:Nat):Int),())).bind λ(aK,_)=>bif !aK then some (([],()),(3:Int),()) else(AT (a,())).bind λ(r,_)=>bif r then some (([],()),(90:Int),()) else(wY (e,())).bind λ(s,_)=>(wZ (((a.length:Nat):Int),())).bind λ(t,_)=>(loop (σ:=cc) (ρ:=cf) (λ(c,l,i,_)=>bif decide (c<((a.length:Nat):Int)) then(loop (σ:=cc) (ρ:=cf) (λ(d,k,b,_)=>bif decide (d<((a.length:Nat):Int)) then(bk b.length c).bind λf=>(ax a c).bind λv=>
 (ax s v).bind λw=>(ax a d).bind λx=>(ax w x).bind λy=>((bd b f λm=>some m).bind λn=>bk n.length d).bind λh=>(bd b f λg=>(bd g h λ_=>some (g.set h y)).map λz=>b.set f z).bind λA=>some (.inl (IntKind.i64.wrap (d+(1:Int)),k,A,())) else some (.inr (k,b,()))) ((0:Int),l,i,())).bind λ(u,o,_)=>some (.inl (IntKind.i64.wrap (c+(1:Int)),u,o,())) else some (.inr (l,i,()))) ((0:Int),([],()),t,())).bind λ(_,p,_)=>(wW (p,())).bind λ(q,_)=>some (q,(0:Int),()))
def AW:cE->Option cj:=λ(a,_)=>(wY (a,())).bind λ(c,_)=>(dI (((a.1).length:Nat):Int) (((a.1).length:Nat):Int)).bind λb=>some ((c,(List.replicate b false,())),())
def w2:(Option cy×Int×Unit)->Option cX:=λ(b,h,_)=>(loop (σ:=cQ) (ρ:=cX) (λ(a,d,_)=>b.bind λj=>cond (decide (a<(((j.1).length:Nat):Int))) (Option.bind (α:=cX) (Option.bind (α:=(Bool×ac8×Unit)) (b.bind λk=>(ax k.1 h).bind λl=>(ax l a).bind λm=>cond (m==true) (b.bind λn=>(ax n.2.1 a).bind λi=>some ((!i),d,())) (some (false,d,()))) λ(g,c,_)=>cond g ((bJ (c.length+([a]).length)).bind λ_=>some ((c++[a]),())) (some (c,()))) λ(e,_)=>some (.inl (IntKind.i64.wrap (a+(1:Int)),e,()))) (some (.inr (d,())))) ((0:Int),[],())).bind λ(f,_)=>some (f,())
def w1:(cy×Int×Unit)->Option cj:=λ(h,l,_)=>(w2 (some h,l,())).bind λ(e,_)=>(loop (σ:=cg) (ρ:=cj) (λ(c,i,_)=>bif decide (c<((e.length:Nat):Int)) then(loop (σ:=cg) (ρ:=cj) (λ(d,a,_)=>bif decide (d<((e.length:Nat):Int)) then Option.bind (α:=cj) (cond (c !=d) ((ax e c).bind λr=>(bk (a.1).length r).bind λf=>(ax e d).bind λq=>((bd a.1 f λm=>some m).bind λn=>bk n.length q).bind λj=>((bd a.1 f λg=>(bd g j λ_=>some (g.set j true)).map λs=>(a.1).set f s).map λt=>(t,a.2)).bind λu=>some (u,())) (some (a,()))) λ(o,_)=>
 some (.inl (IntKind.i64.wrap (d+(1:Int)),o,())) else some (.inr (a,()))) ((0:Int),i,())).bind λ(p,_)=>some (.inl (IntKind.i64.wrap (c+(1:Int)),p,())) else some (.inr (i,()))) ((0:Int),h,())).bind λ(b,_)=>(bk (b.2.1).length l).bind λk=>(((bd b.2.1 k λ_=>some ((b.2.1).set k true)).map λv=>(v,b.2.2)).map λw=>(b.1,w)).bind λx=>some (x,())
def AX:cE->Option cI:=λ(b,_)=>(r8 (b,())).bind λ(e,_)=>(cond (e !=(0:Int)) (some ([],e,())) ((AW (b,())).bind λ(i,_)=>(loop (σ:=(Int×cy×acX×Unit)) (ρ:=cL) (λ(a,f,c,_)=>cond (decide (a<(((b.1).length:Nat):Int))) ((w2 (some f,a,())).bind λ(d,_)=>(bJ (([a]).length+d.length)).bind λ_=>(bJ (c.length+([([a]++d)]).length)).bind λ_=>(w1 (f,a,())).bind λ(g,_)=>some (.inl (IntKind.i64.wrap (a+(1:Int)),g,(c++[([a]++d)]),()))) (some (.inr (c,())))) ((0:Int),i,[],())).bind λ(h,_)=>some (h,(0:Int),())))
def z7:cZ->Option cZ:=λ(b,a,_)=>(da IntKind.u64 b (32:Int)).bind λc=>(da IntKind.u64 a (32:Int)).bind λd=>(da IntKind.u64 (IntKind.u64.wrap (dc IntKind.u64 b (4294967295:Int)*dc IntKind.u64 a (4294967295:Int))) (32:Int)).bind λe=>(da IntKind.u64 (IntKind.u64.wrap (IntKind.u64.wrap (c*dc IntKind.u64 a (4294967295:Int))+e)) (32:Int)).bind λf=>(da IntKind.u64 (IntKind.u64.wrap (dc IntKind.u64 (IntKind.u64.wrap (IntKind.u64.wrap (c*dc IntKind.u64 a (4294967295:Int))+e)) (4294967295:Int)+IntKind.u64.wrap (dc IntKind.u64 b (4294967295:Int)*d))) (32:Int)).bind λg=>some (IntKind.u64.wrap (IntKind.u64.wrap (IntKind.u64.wrap (c*d)+f)+g),IntKind.u64.wrap (b*a),())
def DQ:cZ->Option cZ:=λ(b,c,_)=>(z7 (b,c,())).bind λ(a,aK,_)=>some (a,aK,())
def Al:cP->Option cX:=λ(f,g,_)=>Option.bind (α:=Unit) (cond (decide (g<(0:Int))) none (some ())) λ_=>(DQ (IntKind.u64.wrap ((f.length:Nat):Int),IntKind.u64.wrap g,())).bind λ(m,aK,_)=>Option.bind (α:=Unit) (Option.bind (α:=c0) (cond (decide (m>(0:Int))==false) (some (decide (aK>(9223372036854775807:Int)),())) (some (true,()))) λ(n,_)=>cond n none (some ())) λ_=>(dI (IntKind.i64.wrap aK) (IntKind.i64.wrap aK)).bind λe=>(loop (σ:=cQ) (ρ:=cX) (λ(b,a,_)=>bif decide (b<((a.length:Nat):Int)) then((e9 b).bind λk=>(some (a.length)).bind λh=>(fy k h a.length).bind λ_=>(sV a.length).map λ_=>(k,h)).bind λc=>((some (0)).bind λi=>(e9 b).bind λj=>(fy i j a.length).bind λ_=>(sV a.length).map λ_=>(i,j)).bind λd=>some (.inl (IntKind.i64.wrap (b+((min ((a.take d.2).drop d.1).length (c.2-c.1):Nat):Int)),hL a ((a.take d.2).drop d.1) c.1 c.2,())) else
 some (.inr (a,()))) (((min f.length ((List.replicate e (0:Int)).length-0):Nat):Int),hL (List.replicate e (0:Int)) f 0 (List.replicate e (0:Int)).length,())).bind λ(l,_)=>some (l,())
def A4:cd->Option cO:=λ(g,h,_)=>(loop (σ:=cQ) (ρ:=cr) (λ(e,b,_)=>bif decide (e<((g.length:Nat):Int)) then(Option.bind (α:=cX⊕b6) ((ax g e).bind λa=>Option.bind (α:=(ac8×cB×Unit)⊕(cX⊕b6)) (Option.bind (α:=(Bool×ac8×cB×Unit)) (cond ((a.1 !=((b.length:Nat):Int))==false) (cond (decide (a.2.1<=a.1)==false) (some (decide (a.2.1>h),b,a,())) (some (true,b,a,()))) (some (true,b,a,()))) λ(o,m,l,_)=>cond o (some (.inr (.inr (.inr (.inr ([],false,())))))) (some (.inl (m,l,())))) λc=>match c with
 |.inl (i,f,_)=>((Al ([e],IntKind.i64.wrap (f.2.1-f.1),())).bind λ(k,_)=>(bJ (i.length+k.length)).bind λ_=>some (.inl ((i++k),())))
 |.inr d=>some d) λc=>match c with
 |.inl (n,_)=>(some (.inl (IntKind.i64.wrap (e+(1:Int)),n,())))
 |.inr d=>some d) else some (.inr (.inl (b,())))) ((0:Int),[],())).bind λc=>match c with
 |.inl (j,_)=>(some (j,(((j.length:Nat):Int)==h),()))
 |.inr d=>some d
def A6:(cB×Int×Unit)->ac5:=λ(a,g,_)=>(bif decide ((((a.2.2.1).length:Nat):Int)<IntKind.i64.wrap (a.2.1-a.1)) then some (false,()) else((loop (σ:=c1) (ρ:=cS) (λ(b,_)=>bif decide (b<(((a.2.2.1).length:Nat):Int)) then(Option.bind (α:=Unit⊕cC) ((ax a.2.2.1 b).bind λc=>Option.bind (α:=c0) (cond (decide (b<IntKind.i64.wrap (a.2.1-a.1))==true) (some ((c !=IntKind.i64.wrap (a.1+b)),())) (some (false,()))) λ(f,_)=>cond f (cond f (some (.inr (.inr (.inr (false,()))))) (some (.inl ()))) (cond (decide (b>=IntKind.i64.wrap (a.2.1-a.1))==true) (cond (decide (c<a.2.1)==false) (cond (decide (c>=g)==false) ((ax a.2.2.1 (IntKind.i64.wrap (b-(1:Int)))).bind λh=>cond (decide (c<=h)) (some (.inr (.inr (.inr (false,()))))) (some (.inl ()))) (some (.inr (.inr (.inr (false,())))))) (some (.inr (.inr (.inr (false,())))))) (some (.inl ())))) λd=>match d with
 |.inl _=>(some (.inl (IntKind.i64.wrap (b+(1:Int)),())))
 |.inr e=>some e) else some (.inr (.inl ()))) ((0:Int),())).bind λd=>match d with
 |.inl _=>(some (true,()))
 |.inr e=>some e))
def A5:(List cB×ac8×cB×Unit)->ac5:=λ(f,g,a,_)=>((e9 (IntKind.i64.wrap (a.2.1-a.1))).bind λd=>(some ((a.2.2.1).length)).bind λe=>(fy d e (a.2.2.1).length).map λ_=>(d,e)).bind λb=>(bif (((((a.2.2.1).take b.2).drop b.1).length:Nat):Int)==(0:Int) then some ((a.2.2.2.1==(-1:Int)),()) else(ax (((a.2.2.1).take b.2).drop b.1) (0:Int)).bind λm=>(ax g m).bind λn=>bif a.2.2.2.1 !=n then some (false,()) else((loop (σ:=c1) (ρ:=cS) (λ(c,_)=>cond (decide (c<(((((a.2.2.1).take b.2).drop b.1).length:Nat):Int))) ((ax (((a.2.2.1).take b.2).drop b.1) c).bind λk=>(ax f a.2.2.2.1).bind λl=>(r3 (l.2.2.1,k,())).bind λ(_,j,_)=>cond (!j) (some (.inr (.inr (false,())))) (some (.inl (IntKind.i64.wrap (c+(1:Int)),())))) (some (.inr (.inl ())))) ((0:Int),())).bind λh=>match h with
 |.inl _=>(some (true,()))
 |.inr i=>some i))
def D7:(cB×ac2×Unit)->ac5:=λ(a,b,_)=>b.bind λc=>(A6 (a,c,())).bind λ(aK,_)=>some ((!aK),())
def DU:b4->ac6:=λ(b,c,_)=>(loop (σ:=c1) (ρ:=cU) (λ(a,_)=>cond (decide (a<((b.length:Nat):Int))) ((ax b a).bind λg=>(D7 (g,c.1,())).bind λ(f,_)=>cond f (some (.inr (.inr (a,())))) (some (.inl (IntKind.i64.wrap (a+(1:Int)),())))) (some (.inr (.inl ())))) ((0:Int),())).bind λd=>match d with
 |.inl _=>(some ((-1:Int),()))
 |.inr e=>some e
def Ah:b4->ac5:=λ(c,a,_)=>(DU (c,(a.1,()),())).bind λ(b,_)=>some (decide (b>=(0:Int)),())
def D8:(cB×Option cl×acT×Unit)->ac5:=λ(a,b,c,_)=>b.bind λe=>c.bind λf=>(A5 (e,f,a,())).bind λ(d,_)=>some ((!d),())
def DV:b1->ac6:=λ(c,b,_)=>(loop (σ:=c1) (ρ:=cU) (λ(a,_)=>cond (decide (a<((c.length:Nat):Int))) ((ax c a).bind λg=>(D8 (g,b.1,b.2.1,())).bind λ(f,_)=>cond f (some (.inr (.inr (a,())))) (some (.inl (IntKind.i64.wrap (a+(1:Int)),())))) (some (.inr (.inl ())))) ((0:Int),())).bind λd=>match d with
 |.inl _=>(some ((-1:Int),()))
 |.inr e=>some e
def Ai:b1->ac5:=λ(c,a,_)=>(DV (c,(a.1,a.2.1,()),())).bind λ(b,_)=>some (decide (b>=(0:Int)),())
def sc:b3->ac6:=λ(c,d,_)=>(uf (c,())).bind λ(i,_)=>(bif i !=(0:Int) then some (i,()) else((A4 (d,(((c.1).length:Nat):Int),())).bind λ(aK,p,_)=>Option.bind (α:=cX⊕c1) (cond ((!p)==false) ((Ah (d,(some (((c.1).length:Nat):Int),()),())).bind λ(q,_)=>cond q (some (.inr ((211:Int),()))) (some (.inl (aK,())))) (some (.inr ((211:Int),())))) λa=>match a with
 |.inl (h,_)=>((Ai (d,(some d,some h,()),())).bind λ(r,_)=>bif r then some ((211:Int),()) else((loop (σ:=cQ) (ρ:=cU) (λ(e,l,_)=>bif decide (e<(((c.1).length:Nat):Int)) then((ax c.1 e).bind λj=>(loop (σ:=cQ) (ρ:=b7) (λ(g,f,_)=>bif decide (g<((j.length:Nat):Int)) then(Option.bind (α:=cX⊕(cQ⊕b7)) ((ax j g).bind λk=>cond (decide (k>e)) (some (.inl (f,()))) ((ax f k).bind λs=>(ax d s).bind λt=>(r3 (t.2.2.1,e,())).bind λ(_,o,_)=>cond (!o) (some (.inr (.inr (.inr (.inr (.inr ((211:Int),()))))))) (some (.inl (f,()))))) λa=>match a with
 |.inl (m,_)=>(some (.inl (IntKind.i64.wrap (g+(1:Int)),m,())))
 |.inr b=>some b) else some (.inr (.inl (f,())))) ((0:Int),l,())).bind λa=>match a with
 |.inl (n,_)=>(some (.inl (IntKind.i64.wrap (e+(1:Int)),n,())))
 |.inr b=>some b) else some (.inr (.inl ()))) ((0:Int),h,())).bind λa=>match a with
 |.inl _=>(some ((0:Int),()))
 |.inr b=>some b))
 |.inr b=>some b))
def w3:cd->ac6:=λ(b,e,_)=>(loop (σ:=c1) (ρ:=cU) (λ(a,_)=>bif decide (a<((b.length:Nat):Int)) then(Option.bind (α:=Unit⊕cD) (Option.bind (α:=c0) ((ax b a).bind λg=>cond (decide (g.1<=e)==true) ((ax b a).bind λh=>some (decide (e<h.2.1),())) (some (false,()))) λ(f,_)=>cond f (some (.inr (.inr (.inr (a,()))))) (some (.inl ()))) λc=>match c with
 |.inl _=>(some (.inl (IntKind.i64.wrap (a+(1:Int)),())))
 |.inr d=>some d) else some (.inr (.inl ()))) ((0:Int),())).bind λc=>match c with
 |.inl _=>(some ((-1:Int),()))
 |.inr d=>some d
def r9:b3->ac6:=λ(f,c,_)=>(r8 (f,())).bind λ(o,_)=>(bif o !=(0:Int) then some (o,()) else((loop (σ:=cZ) (ρ:=cK) (λ(k,h,_)=>bif decide (h<((c.length:Nat):Int)) then(Option.bind (α:=c1⊕cm) (Option.bind (α:=Unit⊕(c1⊕cm)) ((ax c h).bind λJ=>cond ((J.1 !=k)==false) ((ax c h).bind λK=>cond (decide (K.2.1<=k)==false) ((ax c h).bind λL=>cond (decide (L.2.1>(((f.1).length:Nat):Int))) (some (.inr (.inr (.inr (.inr ((211:Int),())))))) (some (.inl ()))) (some (.inr (.inr (.inr (.inr ((211:Int),()))))))) (some (.inr (.inr (.inr (.inr ((211:Int),()))))))) λa=>match a with
 |.inl _=>((ax c h).bind λM=>some (.inl (M.2.1,())))
 |.inr b=>some b) λa=>match a with
 |.inl (q,_)=>(some (.inl (q,IntKind.i64.wrap (h+(1:Int)),())))
 |.inr b=>some b) else some (.inr (.inl (k,())))) ((0:Int),(0:Int),())).bind λa=>match a with
 |.inl (r,_)=>(bif r !=(((f.1).length:Nat):Int) then some ((211:Int),()) else((loop (σ:=c1) (ρ:=cU) (λ(e,_)=>bif decide (e<((c.length:Nat):Int)) then(Option.bind (α:=Unit⊕cD) ((ax c e).bind λd=>(ax c e).bind λi=>(ax c e).bind λj=>Option.bind (α:=Unit⊕ct) ((wK (d.2.2.1,())).bind λ(s,_)=>bif (!s)==false then bif decide ((((d.2.2.1).length:Nat):Int)<IntKind.i64.wrap (i.2.1-j.1))==false then(ax d.2.2.1 (0:Int)).bind λx=>(ax c e).bind λy=>bif (x !=y.1)==false then(ax d.2.2.1 (IntKind.i64.wrap (IntKind.i64.wrap (i.2.1-j.1)-(1:Int)))).bind λz=>(ax c e).bind λA=>bif (z !=IntKind.i64.wrap (A.2.1-(1:Int)))==false then(ax d.2.2.1 (IntKind.i64.wrap ((((d.2.2.1).length:Nat):Int)-(1:Int)))).bind λB=>bif decide (B>=(((f.1).length:Nat):Int)) then some (.inr (.inr (.inr (.inr ((211:Int),()))))) else
 some (.inl ()) else some (.inr (.inr (.inr (.inr ((211:Int),()))))) else some (.inr (.inr (.inr (.inr ((211:Int),()))))) else some (.inr (.inr (.inr (.inr ((211:Int),()))))) else some (.inr (.inr (.inr (.inr ((211:Int),())))))) λa=>match a with
 |.inl _=>(Option.bind (α:=c1) (cond (decide ((((d.2.2.1).length:Nat):Int)>IntKind.i64.wrap (i.2.1-j.1))) ((ax d.2.2.1 (IntKind.i64.wrap (i.2.1-j.1))).bind λC=>(w3 (c,C,())).bind λ(t,_)=>some (t,())) (some ((-1:Int),()))) λ(n,_)=>(ax c e).bind λD=>bif D.2.2.2.1 !=n then some (.inr (.inr (.inr ((211:Int),())))) else((loop (σ:=c1) (ρ:=ch) (λ(l,_)=>cond (decide (l<(((d.2.2.1).length:Nat):Int))) ((ax c n).bind λE=>(ax d.2.2.1 l).bind λF=>(qr (E.2.2.1,F,())).bind λ(u,_)=>cond (!u) (some (.inr (.inr (.inr (.inr (.inr ((211:Int),()))))))) (some (.inl (IntKind.i64.wrap (l+(1:Int)),())))) (some (.inr (.inl ())))) (IntKind.i64.wrap (i.2.1-j.1),())).bind λa=>match a with
 |.inl _=>(some (.inl ()))
 |.inr b=>some b))
 |.inr b=>some b) λa=>match a with
 |.inl _=>(some (.inl (IntKind.i64.wrap (e+(1:Int)),())))
 |.inr b=>some b) else some (.inr (.inl ()))) ((0:Int),())).bind λa=>match a with
 |.inl _=>((loop (σ:=c1) (ρ:=cU) (λ(g,_)=>bif decide (g<(((f.1).length:Nat):Int)) then((loop (σ:=c1) (ρ:=ct) (λ(m,_)=>(ax f.1 g).bind λG=>bif decide (m<((G.length:Nat):Int)) then(Option.bind (α:=Unit⊕cb) ((ax f.1 g).bind λH=>(ax H m).bind λp=>cond (decide (p>g)==true) ((w3 (c,g,())).bind λ(v,_)=>(ax c v).bind λI=>(qr (I.2.2.1,p,())).bind λ(w,_)=>cond (!w) (some (.inr (.inr (.inr (.inr (.inr ((211:Int),()))))))) (some (.inl ()))) (some (.inl ()))) λa=>match a with
 |.inl _=>(some (.inl (IntKind.i64.wrap (m+(1:Int)),())))
 |.inr b=>some b) else some (.inr (.inl ()))) ((0:Int),())).bind λa=>match a with
 |.inl _=>(some (.inl (IntKind.i64.wrap (g+(1:Int)),())))
 |.inr b=>some b) else some (.inr (.inl ()))) ((0:Int),())).bind λa=>match a with
 |.inl _=>(some ((0:Int),()))
 |.inr b=>some b)
 |.inr b=>some b))
 |.inr b=>some b))
def At:cP->ac5:=λ(b,c,_)=>(bif ((b.length:Nat):Int)!=c then some (false,()) else((dI c c).bind λk=>(loop (σ:=cN) (ρ:=cS) (λ(a,g,_)=>bif decide (a<c) then(Option.bind (α:=cV⊕ck) (Option.bind (α:=cV⊕(cV⊕ck)) ((ax b a).bind λo=>cond (decide (o<(0:Int))==false) ((ax b a).bind λp=>cond (decide (p>=c)==false) ((ax b a).bind λq=>(bk g.length q).bind λj=>(bd g j λi=>some i).bind λm=>cond m (some (.inr (.inr (.inr (.inr (false,())))))) (some (.inl (g,())))) (some (.inr (.inr (.inr (.inr (false,()))))))) (some (.inr (.inr (.inr (.inr (false,()))))))) λd=>match d with
 |.inl (f,_)=>((ax b a).bind λn=>(bk f.length n).bind λh=>(bd f h λ_=>some (f.set h true)).bind λr=>some (.inl (r,())))
 |.inr e=>some e) λd=>match d with
 |.inl (l,_)=>(some (.inl (IntKind.i64.wrap (a+(1:Int)),l,())))
 |.inr e=>some e) else some (.inr (.inl ()))) ((0:Int),List.replicate k false,())).bind λd=>match d with
 |.inl _=>(some (true,()))
 |.inr e=>some e))
def wX:cq->Option cA:=λ(a,b,_)=>(r8 (a,())).bind λ(c,_)=>(cond (c !=(0:Int)) (some (([],()),c,())) (cond (((b.length:Nat):Int)!=(((a.1).length:Nat):Int)) (some (([],()),(2:Int),())) ((At (b,(((a.1).length:Nat):Int),())).bind λ(aK,_)=>cond (!aK) (some (([],()),(90:Int),())) ((AV (a,b,())).bind λ(d,e,_)=>some (d,e,())))))
section
open Go
def yv (c:ac8->acT) (a:ac8):Option Bool:=bif Nat.ble a.length 1000000 then(c a).bind λb=>bif Nat.ble b.length 1000000 then some (decide ((Lib.compact b).length<a.length)) else none else none
end
def zV:cA->ac5:=λ(b,a,_)=>(cond (decide (a>=(0:Int))==true) (some (decide (a<(((b.1).length:Nat):Int)),())) (some (false,())))
def um:c1->ac6:=λ(a,_)=>Option.bind (α:=cZ) (cond (decide (a>=(65536:Int))) ((da IntKind.u32 a (16:Int)).bind λg=>some (g,(16:Int),())) (some (a,(0:Int),()))) λ(b,c,_)=>Option.bind (α:=cZ) (cond (decide (b>=(256:Int))) ((da IntKind.u32 b (8:Int)).bind λh=>some (h,IntKind.i64.wrap (c+(8:Int)),())) (some (b,c,()))) λ(f,e,_)=>(oF BL (IntKind.u8.wrap f)).bind λd=>some (IntKind.i64.wrap (e+IntKind.i64.wrap d),())
def IF:c1->ac6:=λ(a,_)=>Option.bind (α:=cZ) (cond (decide (a>=(4294967296:Int))) ((da IntKind.u64 a (32:Int)).bind λi=>some (i,(32:Int),())) (some (a,(0:Int),()))) λ(b,d,_)=>Option.bind (α:=cZ) (cond (decide (b>=(65536:Int))) ((da IntKind.u64 b (16:Int)).bind λj=>some (j,IntKind.i64.wrap (d+(16:Int)),())) (some (b,d,()))) λ(c,e,_)=>Option.bind (α:=cZ) (cond (decide (c>=(256:Int))) ((da IntKind.u64 c (8:Int)).bind λk=>some (k,IntKind.i64.wrap (e+(8:Int)),())) (some (c,e,()))) λ(h,g,_)=>(oF BL (IntKind.u8.wrap h)).bind λf=>some (IntKind.i64.wrap (g+IntKind.i64.wrap f),())
def DP:c1->ac6:=λ(b,_)=>(IF (b,())).bind λ(a,_)=>some (a,())
def Am:(ac8×Int×Int×Unit)->Option cX:=λ(k,f,j,_)=>(loop (σ:=cQ) (ρ:=cX) (λ(d,g,_)=>bif decide (d<j) then(loop (σ:=cQ) (ρ:=cX) (λ(a,c,_)=>Option.bind (α:=cX⊕(cQ⊕cX)) (cond (decide (a>f)==true) ((bk c.length a).bind λu=>(bd c u λq=>some q).bind λy=>(bk c.length (IntKind.i64.wrap (a-(1:Int)))).bind λr=>(bd c r λn=>some n).bind λz=>(rV (y,z,())).bind λ(x,_)=>cond x (some (.inl (c,()))) (some (.inr (.inr (c,()))))) (some (.inr (.inr (c,()))))) λv=>match v with
 |.inl (b,_)=>((bk b.length (IntKind.i64.wrap (a-(1:Int)))).bind λs=>(bd b s λo=>some o).bind λA=>(bk b.length a).bind λt=>(bd b t λp=>some p).bind λB=>(bk b.length a).bind λh=>(bd b h λ_=>some (b.set h A)).bind λe=>(bk e.length (IntKind.i64.wrap (a-(1:Int)))).bind λi=>(bd e i λ_=>some (e.set i B)).bind λC=>some (.inl (IntKind.i64.wrap (a-(1:Int)),C,())))
 |.inr w=>some w) (d,g,())).bind λ(l,_)=>some (.inl (IntKind.i64.wrap (d+(1:Int)),l,())) else some (.inr (g,()))) (IntKind.i64.wrap (f+(1:Int)),k,())).bind λ(m,_)=>some (m,())
def Ao:(ac8×Int×Int×Int×Unit)->Option cX:=λ(e,c,d,g,_)=>(loop (σ:=(Int×Int×Int×Bool×Bool×ac8×Unit)) (ρ:=cX) (λ(a,b,_,_,_,f,_)=>cond (decide (IntKind.i64.wrap (b-a)<=(12:Int))) ((Am (f,a,b,())).bind λ(h,_)=>some (.inr (h,()))) none) (c,d,g,true,true,e,())).bind some
def wH:cX->Option cX:=λ(a,_)=>(DP (IntKind.u64.wrap ((a.length:Nat):Int),())).bind λ(c,_)=>(Ao (a,(0:Int),((a.length:Nat):Int),c,())).bind λ(b,_)=>some (b,())
def zU:ac8×Unit->ac5:=λa=>(yv (λc=>(wH (c,())).map λd=>d.1) a.1).map λb=>(b,())
def DN:(Int×Option cL×Unit)->ac5:=λ(b,a,_)=>a.bind λc=>(zV (c,b,())).bind λ(aK,_)=>some ((!aK),())
def DW:ca->ac6:=λ(b,c,_)=>(loop (σ:=c1) (ρ:=cU) (λ(a,_)=>cond (decide (a<((b.length:Nat):Int))) ((ax b a).bind λg=>(DN (g,c.1,())).bind λ(f,_)=>cond f (some (.inr (.inr (a,())))) (some (.inl (IntKind.i64.wrap (a+(1:Int)),())))) (some (.inr (.inl ())))) ((0:Int),())).bind λd=>match d with
 |.inl _=>(some ((-1:Int),()))
 |.inr e=>some e
def Aj:ca->ac5:=λ(c,a,_)=>(DW (c,(a.1,()),())).bind λ(b,_)=>some (decide (b>=(0:Int)),())
def zQ:cq->ac6:=λ(a,b,_)=>(uf (a,())).bind λ(c,_)=>(cond (c !=(0:Int)) (some (c,())) (cond (((b.length:Nat):Int)!=(((a.1).length:Nat):Int)) (some ((2:Int),())) ((Aj (b,(some a,()),())).bind λ(aK,_)=>cond (aK==false) ((zU (b,())).bind λ(d,_)=>cond d (some ((90:Int),())) (some ((0:Int),()))) (some ((90:Int),())))))
def wy:c1->Option cJ:=λ(a,_)=>(dI a a).bind λe=>(loop (σ:=cF) (ρ:=cJ) (λ(c,b,_)=>cond (decide (c<((((List.replicate e []):acV).length:Nat):Int))) ((dI a a).bind λf=>(bk b.length c).bind λd=>(bd b d λ_=>some (b.set d (List.replicate f false))).bind λh=>some (.inl (IntKind.i64.wrap (c+(1:Int)),h,()))) (some (.inr (b,())))) ((0:Int),List.replicate e [],())).bind λ(g,_)=>some (g,())
def wB:(acV×Int×Int×Unit)->Option cJ:=λ(a,d,e,_)=>(cond (d !=e) ((bk a.length d).bind λb=>(bk a.length e).bind λc=>((bd a b λm=>some m).bind λn=>bk n.length e).bind λi=>(bd a b λg=>(bd g i λ_=>some (g.set i true)).map λo=>a.set b o).bind λf=>((bd f c λk=>some k).bind λl=>bk l.length d).bind λj=>(bd f c λh=>(bd h j λ_=>some (h.set j true)).map λp=>f.set c p).bind λq=>some (q,())) (some (a,())))
def zR:(acV×Int×Unit)->Option cX:=λ(f,g,_)=>(ax f g).bind λc=>(loop (σ:=cQ) (ρ:=cX) (λ(a,b,_)=>cond (decide (a<((c.length:Nat):Int))) (Option.bind (α:=cX) ((ax c a).bind λh=>cond h ((bJ (b.length+([a]).length)).bind λ_=>some ((b++[a]),())) (some (b,()))) λ(d,_)=>some (.inl (IntKind.i64.wrap (a+(1:Int)),d,()))) (some (.inr (b,())))) ((0:Int),[],())).bind λ(e,_)=>some (e,())
def wA:cJ->Option cE:=λ(b,_)=>(dI ((b.length:Nat):Int) ((b.length:Nat):Int)).bind λg=>(loop (σ:=b8) (ρ:=b9) (λ(c,e,a,_)=>cond (decide (c<((b.length:Nat):Int))) ((zR (b,c,())).bind λ(h,_)=>(bk (a.1).length c).bind λd=>((bd a.1 d λ_=>some ((a.1).set d h)).map λi=>(i,a.2)).bind λj=>some (.inl (IntKind.i64.wrap (c+(1:Int)),e,j,()))) (some (.inr (e,a,())))) ((0:Int),([],()),(List.replicate g [],()),())).bind λ(_,f,_)=>some (f,())
def zT:cq->Option cE:=λ(k,a,_)=>(wy (((a.length:Nat):Int),())).bind λ(o,_)=>(loop (σ:=cc) (ρ:=cf) (λ(b,i,j,_)=>bif decide (b<((a.length:Nat):Int)) then(ax a b).bind λv=>((some (0)).bind λg=>(e9 b).bind λh=>(fy g h a.length).map λ_=>(g,h)).bind λc=>(loop (σ:=cc) (ρ:=cf) (λ(d,e,f,_)=>bif decide (d<((((a.take c.2).drop c.1).length:Nat):Int)) then Option.bind (α:=cf) ((ax ((a.take c.2).drop c.1) d).bind λu=>(ug (k,v,u,())).bind λ(m,_)=>cond m ((wB (f,b,d,())).bind λ(l,_)=>some (e,l,())) (some (e,f,()))) λ(p,q,_)=>
 some (.inl (IntKind.i64.wrap (d+(1:Int)),p,q,())) else some (.inr (e,f,()))) ((0:Int),i,j,())).bind λ(r,s,_)=>some (.inl (IntKind.i64.wrap (b+(1:Int)),r,s,())) else some (.inr (i,j,()))) ((0:Int),([],()),o,())).bind λ(_,t,_)=>(wA (t,())).bind λ(n,_)=>some (n,())
def wz:cq->Option cA:=λ(a,b,_)=>(zQ (a,b,())).bind λ(c,_)=>(cond (c !=(0:Int)) (some (([],()),c,())) ((zT (a,b,())).bind λ(aK,_)=>some (aK,(0:Int),())))
def tY:cZ->ac6:=λ(a,b,_)=>(qm (a,())).bind λ(c,_)=>(qm (b,())).bind λ(aK,_)=>(cond c (cond aK (some ((0:Int),())) (some ((-1:Int),()))) (cond aK (some ((1:Int),())) (cond (decide (a<b)) (some ((-1:Int),())) (cond (decide (a>b)) (some ((1:Int),())) (some ((0:Int),()))))))
def zA:cX->ac6:=λ(b,_)=>(loop (σ:=c1) (ρ:=cU) (λ(a,_)=>cond (decide (a<((b.length:Nat):Int))) ((ax b a).bind λc=>cond (c !=(0:Int)) (some (.inr (.inr (c,())))) (some (.inl (IntKind.i64.wrap (a+(1:Int)),())))) (some (.inr (.inl ())))) ((0:Int),())).bind λd=>match d with
 |.inl _=>(some ((0:Int),()))
 |.inr e=>some e
abbrev aM:Type:=ac8
abbrev eG:Type:=(aM×Unit)
abbrev bW:Type:=(Bool×eG)
abbrev a8:Type:=c1
abbrev bw:Type:=(Bool×(bW×a8))
abbrev Hs:Type:=(aM×(aM×eG))
abbrev ew:Type:=(List bw)
abbrev dh:Type:=(Int×(Int×(ew×Unit)))
abbrev jI:Type:=(List (Int×(Int×a8)))
abbrev g0:Type:=(List aM×(List aM×(List (Option (List (Int×bw)×Nat))×(List aM×Unit))))
abbrev b0:Type:=(Int×(Int×Hs))
abbrev gR:Type:=(Int×(Int×eG))
abbrev dH:Type:=c0
abbrev lB:Type:=(Int×((List aM×Unit)×(List (Option (List (Int×bw)×Nat))×Unit)))
abbrev mW:Type:=(List (Int×(Int×(aM×a8))))
abbrev dq:Type:=(aM×Hs)
abbrev dV:Type:=(bw×Unit)
abbrev kx:Type:=(dh×(gR×(ew×Unit)))
abbrev ez:Type:=(bW×Unit)
abbrev hF:Type:=(bw×bw×Unit)
abbrev gZ:Type:=(Int×aM×Unit)
abbrev hG:Type:=ac4
abbrev md:Type:=(dq×Int×Int×Unit)
abbrev hH:Type:=(Unit⊕dH)
abbrev kX:Type:=(Int×dh×dh×Unit)
abbrev iO:Type:=(jI×Unit)
abbrev iP:Type:=(dh×dh×Unit)
abbrev tJ:Type:=(Int×dq×List aM×dq×Unit)
abbrev oX:Type:=(Int×jI×Unit)
abbrev h2:Type:=(aM×aM×Unit)
abbrev iQ:Type:=(bW×bW×Unit)
abbrev hI:Type:=(Unit⊕a8)
abbrev kY:Type:=(aM×Int×Unit)
abbrev kZ:Type:=cZ
abbrev lC:Type:=(dh×Int×Unit)
abbrev Dk:Type:=(Int×Int×jI×Unit)
abbrev qa:Type:=(Bool×(bW×(Int×dH)))
abbrev n2:Type:=(Int×Int×aM×Unit)
abbrev mX:Type:=(bW×Int×Unit)
abbrev Dl:Type:=((dq×List aM×dq×Unit)⊕(tJ⊕((dq×dq×Unit)⊕md)))
abbrev ky:Type:=(b0×Unit)
def kA:eG->Option eG:=λ(c,_)=>(loop (σ:=a8) (ρ:=a8) (λ(a,_)=>Option.bind (α:=Unit⊕(a8⊕a8)) (cond (decide (a>0)==true) ((ax c (aq (a-1))).bind λj=>cond (j==0) (some (.inl ())) (some (.inr (.inr (a,()))))) (some (.inr (.inr (a,()))))) λh=>match h with
 |.inl _=>(some (.inl (aq (a-1),())))
 |.inr i=>some i) (ar c,())).bind λ(f,_)=>(loop (σ:=gZ) (ρ:=eG) (λ(b,d,_)=>cond (decide (b<f)) ((ax c b).bind λe=>(bJ (d.length+([e]).length)).bind λ_=>some (.inl (aQ b,(d++[e]),()))) (some (.inr (d,())))) (0,[],())).bind λ(g,_)=>some (g,())
def kf:(Bool×aM×Unit)->Option ez:=λ(c,b,_)=>(kA (b,())).bind λ(a,_)=>(cond (c==true) (some ((decide (ar a>0),(a,())),())) (some ((false,(a,())),())))
def pc:a8->Option ez:=λ(a,_)=>Option.bind (α:=(Int×bW×Unit)) (cond (decide (a<0)) (some (aJ (aJ (aq (0-aQ a))+1),(false,([],())),())) (some (aJ a,(false,([],())),()))) λ(b,_,_)=>(da IntKind.u64 b 32).bind λd=>(kf (decide (a<0),[bX b,bX d],())).bind λ(c,_)=>some (c,())
def oc:ez->Option ez:=λ(a,_)=>(kf (a.1,a.2.1,())).bind λ(b,_)=>some (b,())
def qs:Unit->Option dV:=λ_=>some ((true,((false,([],())),((0:Int),()))),())
def uo:a8->Option a8:=λ(a,_)=>(cond (a==0) (some (32,())) ((da IntKind.u32 (bX (dc IntKind.u32 a (bX (0-a))*125613361)) 27).bind λb=>(ax n9 b).bind λc=>some (aq c,())))
def pd:ez->Option a8:=λ(c,_)=>(kA (c.2.1,())).bind λ(b,_)=>(loop (σ:=a8) (ρ:=hI) (λ(a,_)=>cond (decide (a<ar b)) ((ax b a).bind λg=>cond (g !=0) ((ax b a).bind λh=>(uo (h,())).bind λ(f,_)=>some (.inr (.inr (aq (aq (32*a)+f),())))) (some (.inl (aQ a,())))) (some (.inr (.inl ())))) (0,())).bind λd=>match d with
 |.inl _=>(some (0,()))
 |.inr e=>some e
def pa:ez->Option ez:=λ(a,_)=>(kf (false,a.2.1,())).bind λ(b,_)=>some (b,())
def uw:kY->Option eG:=λ(f,g,_)=>(gk IntKind.i64 g 32).bind λi=>(dI i i).bind λj=>(loop (σ:=n2) (ρ:=gZ) (λ(a,b,c,_)=>cond (decide (b<ar f)) ((ax f b).bind λl=>(fS g 32).bind λm=>(gn IntKind.u64 (aJ l) m).bind λd=>(bJ (c.length+([bX (eB IntKind.u64 a d)]).length)).bind λ_=>(da IntKind.u64 (eB IntKind.u64 a d) 32).bind λk=>some (.inl (k,aQ b,(c++[bX (eB IntKind.u64 a d)]),()))) (some (.inr (a,c,())))) (0,0,List.replicate j (0:Int),())).bind λ(e,h,_)=>(bJ (h.length+([bX e]).length)).bind λ_=>some ((h++[bX e]),())
def ux:kY->Option (aM×Bool×Unit):=λ(b,d,_)=>(loop (σ:=cY) (ρ:=dH) (λ(e,c,_)=>Option.bind (α:=Unit⊕(cY⊕dH)) ((gk IntKind.i64 d 32).bind λw=>cond (decide (c<w)==true) (cond (decide (c<ar b)) (some (.inl ())) (some (.inr (.inr (e,()))))) (some (.inr (.inr (e,()))))) λt=>match t with
 |.inl _=>(Option.bind (α:=dH) (cond (e==false) ((ax b c).bind λx=>some ((x !=0),())) (some (true,()))) λ(m,_)=>some (.inl (m,aQ c,())))
 |.inr u=>some u) (false,0,())).bind λ(n,_)=>(fS d 32).bind λj=>(gk IntKind.i64 d 32).bind λy=>(loop (σ:=(Bool×Int×aM×Unit)) (ρ:=(Bool×aM×Unit)) (λ(f,a,g,_)=>bif decide (a<ar b) then Option.bind (α:=(Bool×aM×Unit)) ((ax b a).bind λk=>Option.bind (α:=gZ) (cond (decide (aQ a<ar b)) ((ax b (aQ a)).bind λz=>(gn IntKind.u64 (aJ z) 32).bind λA=>some (eB IntKind.u64 (aJ k) A,g,())) (some (aJ k,g,()))) λ(v,h,_)=>Option.bind (α:=(Bool×aM×Unit)) ((gk IntKind.i64 d 32).bind λB=>cond ((a==B)==true) ((ax b a).bind λC=>(gn IntKind.u32 1 j).bind λD=>cond (dc IntKind.u32 C (bX (D-1))!=0) (some (true,h,())) (some (f,h,()))) (some (f,h,()))) λ(o,i,_)=>(da IntKind.u64 v j).bind λl=>(bJ (i.length+([bX l]).length)).bind λ_=>some (o,(i++[bX l]),())) λ(p,r,_)=>some (.inl (p,aQ a,r,())) else
 some (.inr (f,g,()))) (n,y,[],())).bind λ(q,s,_)=>some (s,q,())
def wO:ez->Option ez:=λ(a,_)=>(kf ((!a.1),a.2.1,())).bind λ(b,_)=>some (b,())
def Ax:h2->Option eG:=λ(b,c,_)=>(loop (σ:=n2) (ρ:=gZ) (λ(e,a,f,_)=>cond (decide (a<(if(ar c)>ar b then ar c else ar b))) (Option.bind (α:=gZ) (Option.bind (α:=gZ) (cond (decide (a<ar b)) ((ax b a).bind λo=>some (aJ (e+aJ o),f,())) (some (e,f,()))) λ(h,k,_)=>Option.bind (α:=gZ) (cond (decide (a<ar c)) ((ax c a).bind λp=>some (aJ (h+aJ p),k,())) (some (h,k,()))) λ(d,i,_)=>(bJ (i.length+([bX d]).length)).bind λ_=>(da IntKind.u64 d 32).bind λn=>some (n,(i++[bX d]),())) λ(l,m,_)=>some (.inl (l,aQ a,m,()))) (some (.inr (e,f,())))) (0,0,[],())).bind λ(g,j,_)=>(bJ (j.length+([bX g]).length)).bind λ_=>some ((j++[bX g]),())
def wP:h2->Option a8:=λ(b,c,_)=>(bif ar b !=ar c then cond (decide (ar b<ar c)) (some ((-1:Int),())) (some (1,())) else((loop (σ:=a8) (ρ:=hI) (λ(a,_)=>cond (decide (a>=0)) ((ax b a).bind λf=>(ax c a).bind λg=>cond (f !=g) ((ax b a).bind λh=>(ax c a).bind λi=>cond (decide (h<i)) (some (.inr (.inr ((-1:Int),())))) (some (.inr (.inr (1,()))))) (some (.inl (aq (a-1),())))) (some (.inr (.inl ())))) (aq (ar b-1),())).bind λd=>match d with
 |.inl _=>(some (0,()))
 |.inr e=>some e))
def wQ:h2->Option eG:=λ(d,e,_)=>(loop (σ:=n2) (ρ:=eG) (λ(f,a,b,_)=>cond (decide (a<ar d)) (Option.bind (α:=gZ) ((ax d a).bind λh=>Option.bind (α:=gZ) (cond (decide (a<ar e)) ((ax e a).bind λm=>some (aJ (aJ (aJ h-f)-aJ m),b,())) (some (aJ (aJ h-f),b,()))) λ(c,g,_)=>(bJ (g.length+([bX c]).length)).bind λ_=>(da IntKind.u64 c 63).bind λl=>some (l,(g++[bX c]),())) λ(i,j,_)=>some (.inl (i,aQ a,j,()))) (some (.inr (b,())))) (0,0,[],())).bind λ(k,_)=>some (k,())
def m4:iQ->Option ez:=λ(a,c,_)=>(kA (a.2.1,())).bind λ(b,_)=>(kA (c.2.1,())).bind λ(aK,_)=>(cond (a.1==c.1) ((Ax (b,aK,())).bind λ(f,_)=>(kf (a.1,f,())).bind λ(g,_)=>some (g,())) ((wP (b,aK,())).bind λ(h,_)=>cond (decide (h>=0)) ((wQ (b,aK,())).bind λ(i,_)=>(kf (a.1,i,())).bind λ(j,_)=>some (j,())) ((wQ (aK,b,())).bind λ(d,_)=>(kf (c.1,d,())).bind λ(e,_)=>some (e,()))))
def uv:iQ->Option ez:=λ(a,b,_)=>(wO (b,())).bind λ(c,_)=>(m4 (a,c,())).bind λ(aK,_)=>some (aK,())
def jO:mX->Option ez:=λ(f,b,_)=>(oc (f,())).bind λ(a,_)=>(cond (decide (b>=0)) ((uw (a.2.1,b,())).bind λ(aK,_)=>(kf (a.1,aK,())).bind λ(j,_)=>some (j,())) ((ux (a.2.1,aq (0-b),())).bind λ(k,l,_)=>(kf (a.1,k,())).bind λ(d,_)=>Option.bind (α:=iQ) (Option.bind (α:=(Bool×bW×bW×Unit)) (cond (a.1==true) (some (l,(false,([],())),d,())) (some (false,(false,([],())),d,()))) λ(m,e,c,_)=>cond m ((pc (1,())).bind λ(h,_)=>(uv (c,h,())).bind λ(i,_)=>some (e,i,())) (some (e,c,()))) λ(_,g,_)=>some (g,())))
def uz:mX->Option ez:=λ(d,f,_)=>(loop (σ:=(Int×bW×bW×Unit)) (ρ:=(Int×bW×bW×Unit)) (λ(a,b,c,_)=>cond (decide (a>1048576)) ((jO (b,(-1048576:Int),())).bind λ(i,_)=>some (.inl (aq (a-1048576),i,c,()))) (some (.inr (a,b,c,())))) (f,d,(false,([],())),())).bind λ(g,e,_,_)=>(jO (e,aq (0-g),())).bind λ(h,_)=>some (h,())
def pb:ez->Option a8:=λ(b,_)=>(kA (b.2.1,())).bind λ(a,_)=>(cond (ar a==0) (some (0,())) ((ax a (aq (ar a-1))).bind λc=>(um (c,())).bind λ(aK,_)=>some (aq (aq (32*aq (ar a-1))+aK),())))
def ml:mX->Option dV:=λ(e,a,_)=>(oc (e,())).bind λ(c,_)=>(bif ar c.2.1==0 then some ((false,((false,([],())),((0:Int),()))),()) else bif decide (a>65536) then(qs ()).bind λ(aK,_)=>some (aK,()) else((pd (c,())).bind λ(b,_)=>(pa (c,())).bind λ(k,_)=>(uz (k,b,())).bind λ(d,_)=>Option.bind (α:=(bw×bW×Unit)⊕dV) (Option.bind (α:=(Bool×bw×bW×Unit)) (cond (decide (aq (a+b)<(-65536:Int))==false) ((pb (d,())).bind λ(l,_)=>some (decide (aq (aq (a+b)+l)>65536),(false,((false,([],())),((0:Int),()))),d,())) (some (true,(false,((false,([],())),((0:Int),()))),d,()))) λ(n,m,f,_)=>cond n ((qs ()).bind λ(j,_)=>some (.inr (j,()))) (some (.inl (m,f,())))) λh=>match h with
 |.inl (_,g,_)=>(some ((false,((e.1,g.2),(aq (a+b),()))),()))
 |.inr i=>some i))
def AE:a8->Option dV:=λ(a,_)=>(pc (a,())).bind λ(b,_)=>(ml (b,0,())).bind λ(c,_)=>some (c,())
def iU:dV->Option dV:=λ(a,_)=>(cond a.1 ((qs ()).bind λ(b,_)=>some (b,())) ((ml (a.2.1,a.2.2.1,())).bind λ(c,_)=>some (c,())))
def iT:ez->Option a8:=λ(b,_)=>(oc (b,())).bind λ(a,_)=>(cond (ar a.2.1==0) (some (0,())) (cond a.1 (some ((-1:Int),())) (some (1,()))))
def pe:cY->Option a8:=λ(b,a,_)=>(cond b (some (eB IntKind.u64 a 9223372036854775808,())) (some (a,())))
def wU:cY->Option a8:=λ(a,b,_)=>Option.bind (α:=Unit⊕a8) (Option.bind (α:=dH) (cond ((b==3)==false) (cond ((b==1)==true) (cond ((!a)==false) (cond ((b==2)==true) (some (a,())) (some (false,()))) (some (true,()))) (cond ((b==2)==true) (some (a,())) (some (false,())))) (some (true,()))) λ(f,_)=>cond f ((pe (a,9218868437227405311,())).bind λ(aK,_)=>some (.inr (aK,()))) (some (.inl ()))) λc=>match c with
 |.inl _=>((pe (a,9218868437227405312,())).bind λ(e,_)=>some (e,()))
 |.inr d=>some d
def wM:mX->Option dH:=λ(a,b,_)=>(kA (a.2.1,())).bind λ(c,_)=>(ux (c,b,())).bind λ(_,d,_)=>some (d,())
def AJ:(Bool×Int×Bool×Int×Unit)->Option dH:=λ(c,b,d,a,_)=>(cond (a==1) (some (c,())) (cond (a==2) (some ((!c),())) (cond (a==3) (some (false,())) (cond (decide (b>0)==false) (cond ((b==0)==true) (some (d,())) (some (false,()))) (some (true,()))))))
def AD:(Bool×bW×Int×Bool×Int×Unit)->Option ez:=λ(q,b,a,h,p,_)=>(uz (b,a,())).bind λ(l,_)=>(wM (b,a,())).bind λ(D,_)=>Option.bind (α:=iQ⊕ez) (Option.bind (α:=(Bool×bW×bW×Unit)) (cond ((!D)==true) (some ((!h),(false,([],())),l,())) (some (false,(false,([],())),l,()))) λ(F,G,i,_)=>cond F (some (.inr (i,()))) (some (.inl (G,i,())))) λs=>match s with
 |.inl (g,f,_)=>(Option.bind (α:=(Int×bW×bW×Unit)) (cond (decide (a>0)) ((uz (b,aq (a-1),())).bind λ(k,_)=>Option.bind (α:=(Bool×bW×bW×Unit)) ((pd (k,())).bind λ(v,_)=>cond ((v==0)==true) ((iT (k,())).bind λ(w,_)=>some ((w !=0),g,f,())) (some (false,g,f,()))) λ(E,e,c,_)=>cond E (cond (h==false) ((wM (b,aq (a-1),())).bind λ(x,_)=>cond x (some (1,e,c,())) (some (0,e,c,()))) (some (1,e,c,()))) (some ((-1:Int),e,c,()))) (some ((-1:Int),g,f,()))) λ(o,m,d,_)=>Option.bind (α:=(Bool×bW×bW×Unit)) ((iT (d,())).bind λ(y,_)=>cond ((y !=0)==true) ((pd (d,())).bind λ(z,_)=>some ((z==0),m,d,())) (some (false,m,d,()))) λ(r,n,j,_)=>Option.bind (α:=iQ) ((AJ (q,o,r,p,())).bind λ(A,_)=>
  cond A ((pc (1,())).bind λ(B,_)=>(m4 (j,B,())).bind λ(C,_)=>some (n,C,())) (some (n,j,()))) λ(_,t,_)=>some (t,()))
 |.inr u=>some u
def Av:ez->Option cW:=λ(f,_)=>(oc (f,())).bind λ(d,_)=>(cond (decide (ar d.2.1>2)) (some (0,false,())) ((loop (σ:=(Int×Int×bW×Unit)) (ρ:=(Int×bW×Unit)) (λ(e,b,a,_)=>cond (decide (b<ar a.2.1)) ((ax a.2.1 b).bind λh=>(gn IntKind.u64 (aJ h) (aq (32*b))).bind λi=>some (.inl (eB IntKind.u64 e i,aQ b,a,()))) (some (.inr (e,a,())))) (0,0,d,())).bind λ(c,g,_)=>cond g.1 (cond (decide (c>9223372036854775808)) (some (0,false,())) (some (aq (aq (0-aq (aJ (c-1)))-1),true,()))) (cond (decide (c>9223372036854775807)) (some (0,false,())) (some (aq c,true,())))))
def uA:(Bool×bW×Int×Bool×Int×Unit)->Option a8:=λ(c,e,a,i,f,_)=>(pb (e,())).bind λ(b,_)=>(bif decide (aq (aq (a+b)-1)>=1024) then(wU (c,f,())).bind λ(p,_)=>some (p,()) else(Option.bind (α:=ez) (cond (decide ((if(-1074:Int)>aq (aq (aq (a+b)-1)-52) then(-1074:Int) else aq (aq (aq (a+b)-1)-52))>=a)) ((AD (c,e,aq ((if(-1074:Int)>aq (aq (aq (a+b)-1)-52) then(-1074:Int) else aq (aq (aq (a+b)-1)-52))-a),i,f,())).bind λ(q,_)=>some (q,())) ((jO (e,aq (a-(if(-1074:Int)>aq (aq (aq (a+b)-1)-52) then(-1074:Int) else aq (aq (aq (a+b)-1)-52))),())).bind λ(r,_)=>some (r,()))) λ(j,_)=>(Av (j,())).bind λ(g,_,_)=>Option.bind (α:=kZ) (bif g==9007199254740992 then some (aQ (if(-1074:Int)>aq (aq (aq (a+b)-1)-52) then(-1074:Int) else aq (aq (aq (a+b)-1)-52)),4503599627370496,()) else
 some ((if(-1074:Int)>aq (aq (aq (a+b)-1)-52) then(-1074:Int) else aq (aq (aq (a+b)-1)-52)),g,())) λ(h,d,_)=>Option.bind (α:=Unit⊕a8) (Option.bind (α:=dH) (cond (decide (d>=4503599627370496)==true) (some (decide (aq (h+53)>1024),())) (some (false,()))) λ(s,_)=>cond s ((wU (c,f,())).bind λ(m,_)=>some (.inr (m,()))) (cond (decide (d>=4503599627370496)) ((gn IntKind.u64 (aJ (aq (h+1075))) 52).bind λt=>(pe (c,eB IntKind.u64 t (aJ (aq (d-4503599627370496))),())).bind λ(n,_)=>some (.inr (n,()))) (some (.inl ())))) λk=>match k with
 |.inl _=>((pe (c,aJ d,())).bind λ(o,_)=>some (o,()))
 |.inr l=>some l))
def AN:(bw×Int×Unit)->Option a8:=λ(b,c,_)=>(iU (b,())).bind λ(a,_)=>(cond a.1 (some (9221120237041090560,())) ((iT (a.2.1,())).bind λ(aK,_)=>cond (aK==0) (some (0,())) ((pa (a.2.1,())).bind λ(d,_)=>(uA (a.2.1.1,d,a.2.2.1,false,c,())).bind λ(e,_)=>some (e,()))))
def r7:kZ->Option a8:=λ(b,a,_)=>(AE (b,())).bind λ(c,_)=>(AN (c,a,())).bind λ(aK,_)=>some (aK,())
def ue:a8->Option kZ:=λ(a,_)=>(da IntKind.u64 a 52).bind λb=>some (aq (dc IntKind.u64 b 2047),dc IntKind.u64 a 4503599627370495,())
def o7:a8->Option dH:=λ(a,_)=>(ue (a,())).bind λ(b,_,_)=>some ((b !=2047),())
def gG:eG->Option eG:=λ(b,_)=>(loop (σ:=a8) (ρ:=a8) (λ(a,_)=>Option.bind (α:=Unit⊕(a8⊕a8)) (cond (decide (a>0)==true) ((ax b (aq (a-1))).bind λi=>cond (i==0) (some (.inl ())) (some (.inr (.inr (a,()))))) (some (.inr (.inr (a,()))))) λg=>match g with
 |.inl _=>(some (.inl (aq (a-1),())))
 |.inr h=>some h) (ar b,())).bind λ(f,_)=>((some (0)).bind λc=>(e9 f).bind λd=>(fy c d b.length).map λ_=>(c,d)).bind λe=>some (((b.take e.2).drop e.1),())
def jN:(Bool×aM×Unit)->Option ez:=λ(c,b,_)=>(gG (b,())).bind λ(a,_)=>(cond (ar a==0) (some ((false,(([]:aM),())),())) (some ((c,(a,())),())))
def rY:a8->Option ez:=λ(a,_)=>Option.bind (α:=(Int×bW×Unit)) (cond (decide (a<0)) (some (aJ (0-aJ a),(false,([],())),())) (some (aJ a,(false,([],())),()))) λ(b,_,_)=>(da IntKind.u64 b 32).bind λd=>(jN (decide (a<0),[bX (dc IntKind.u64 b 4294967295),bX d],())).bind λ(c,_)=>some (c,())
def zO:a8->Option dH:=λ(a,_)=>some ((dc IntKind.u64 a 9223372036854775808 !=0),())
def r4:eG->Option eG:=λ(a,_)=>mC a.length (some ([],())) ((bJ (([]:aM).length+a.length)).bind λ_=>some (([]++a),()))
def qp:ez->Option ez:=λ(a,_)=>(r4 (a.2.1,())).bind λ(b,_)=>(jN ((!a.1),b,())).bind λ(c,_)=>some (c,())
def uc:Unit->Option dV:=λ_=>some ((true,((false,([],())),((0:Int),()))),())
def zY:ez->Option ez:=λ(a,_)=>(r4 (a.2.1,())).bind λ(b,_)=>(jN (a.1,b,())).bind λ(c,_)=>some (c,())
def m3:ez->Option a8:=λ(a,_)=>(gG (a.2.1,())).bind λ(b,_)=>(cond (ar b==0) (some (0,())) (cond a.1 (some ((-1:Int),())) (some (1,()))))
def wD:ez->Option a8:=λ(b,_)=>(loop (σ:=a8) (ρ:=hI) (λ(a,_)=>cond (decide (a<ar b.2.1)) ((ax b.2.1 a).bind λc=>cond (c !=0) ((uo (c,())).bind λ(aK,_)=>some (.inr (.inr (aq (aq (a*32)+aK),())))) (some (.inl (aQ a,())))) (some (.inr (.inl ())))) (0,())).bind λd=>match d with
 |.inl _=>(some (0,()))
 |.inr e=>some e
def uj:eG->Option a8:=λ(a,_)=>(cond (ar a==0) (some (0,())) ((ax a (aq (ar a-1))).bind λc=>(um (c,())).bind λ(b,_)=>some (aq (aq (aq (ar a-1)*32)+b),())))
def o8:ez->Option a8:=λ(a,_)=>(gG (a.2.1,())).bind λ(b,_)=>(uj (b,())).bind λ(c,_)=>some (c,())
def r1:kY->Option eG:=λ(b,e,_)=>(cond (ar b==0) (some ([],())) ((gk IntKind.i64 e 32).bind λc=>(fS e 32).bind λj=>(dI (aQ (aq (c+ar b))) (aQ (aq (c+ar b)))).bind λg=>(loop (σ:=gZ) (ρ:=eG) (λ(a,d,_)=>cond (decide (a<ar b)) ((ax b a).bind λk=>(gn IntKind.u64 (aJ k) (aJ j)).bind λf=>rd d (aq (c+a)) λl=>wr d (aq (c+a)) (eB IntKind.u32 l (bX (dc IntKind.u64 f 4294967295))) λn=>(da IntKind.u64 f 32).bind λm=>wr n (aQ (aq (c+a))) (bX m) λo=>some (.inl (aQ a,o,()))) (some (.inr (d,())))) (0,List.replicate g (0:Int),())).bind λ(h,_)=>(gG (h,())).bind λ(i,_)=>some (i,())))
def DO:a8->Option dH:=λ(a,_)=>some ((a !=0),())
def DX:(aM×Unit×Unit)->Option a8:=λ(b,_,_)=>(loop (σ:=a8) (ρ:=hI) (λ(a,_)=>cond (decide (a<ar b)) ((ax b a).bind λf=>(DO (f,())).bind λ(e,_)=>cond e (some (.inr (.inr (a,())))) (some (.inl (aQ a,())))) (some (.inr (.inl ())))) (0,())).bind λc=>match c with
 |.inl _=>(some ((-1:Int),()))
 |.inr d=>some d
def wG:(aM×Unit×Unit)->Option dH:=λ(b,_,_)=>(DX (b,(),())).bind λ(a,_)=>some (decide (a>=0),())
def ui:kY->Option (aM×Bool×Unit):=λ(a,h,_)=>(gk IntKind.i64 h 32).bind λb=>(fS h 32).bind λj=>(bif decide (b>=ar a) then some ([],decide (ar a>0),()) else Option.bind (α:=dH) (((some (0)).bind λe=>(e9 b).bind λf=>(fy e f a.length).map λ_=>(e,f)).bind λi=>(wG (((a.take i.2).drop i.1),(),())).bind λ(p,_)=>cond (p==false) ((ax a b).bind λs=>(gn IntKind.u32 1 (aJ j)).bind λt=>some ((dc IntKind.u32 s (bX (t-1))!=0),())) (some (true,()))) λ(l,_)=>(dI (aq (ar a-b)) (aq (ar a-b))).bind λg=>(loop (σ:=gZ) (ρ:=eG) (λ(c,d,_)=>bif decide (c<ar (List.replicate g (0:Int))) then Option.bind (α:=eG) ((ax a (aq (b+c))).bind λk=>Option.bind (α:=gZ) (cond (decide (aQ (aq (b+c))<ar a)) ((ax a (aQ (aq (b+c)))).bind λu=>(gn IntKind.u64 (aJ u) 32).bind λv=>some (eB IntKind.u64 (aJ k) v,d,())) (some (aJ k,d,()))) λ(r,m,_)=>
 (da IntKind.u64 r (aJ j)).bind λw=>wr m c (bX (dc IntKind.u64 w 4294967295)) λx=>some (x,())) λ(n,_)=>some (.inl (aQ c,n,())) else some (.inr (d,()))) (0,List.replicate g (0:Int),())).bind λ(o,_)=>(gG (o,())).bind λ(q,_)=>some (q,l,()))
def r0:h2->Option eG:=λ(b,d,_)=>Option.bind (α:=h2) (cond (decide (ar b<ar d)) (some (d,b,())) (some (b,d,()))) λ(c,h,_)=>(dI 0 (aQ (ar c))).bind λn=>(loop (σ:=n2) (ρ:=gZ) (λ(e,a,f,_)=>cond (decide (a<ar c)) (Option.bind (α:=gZ) ((ax c a).bind λl=>Option.bind (α:=gZ) (cond (decide (a<ar h)) ((ax h a).bind λq=>some (aJ (aJ (aJ l+e)+aJ q),f,())) (some (aJ (aJ l+e),f,()))) λ(g,j,_)=>(bJ (j.length+([bX (dc IntKind.u64 g 4294967295)]).length)).bind λ_=>(da IntKind.u64 g 32).bind λr=>some (r,(j++[bX (dc IntKind.u64 g 4294967295)]),())) λ(m,o,_)=>some (.inl (m,aQ a,o,()))) (some (.inr (e,f,())))) (0,0,List.replicate n (0:Int),())).bind λ(i,k,_)=>(bJ (k.length+([bX i]).length)).bind λ_=>(gG ((k++[bX i]),())).bind λ(p,_)=>some (p,())
def o9:mX->Option mX:=λ(b,a,_)=>Option.bind (α:=ez⊕mX) (Option.bind (α:=(Bool×bW×Unit)) (cond (decide (a<(-1048576:Int))==false) (some (decide (a>1048576),(false,([],())),())) (some (true,(false,([],())),()))) λ(p,q,_)=>cond p (some (.inr ((false,(([]:aM),())),3,()))) (some (.inl (q,())))) λh=>match h with
 |.inl (f,_)=>((gG (b.2.1,())).bind λ(c,_)=>cond (decide (a>=0)) ((r1 (c,a,())).bind λ(m,_)=>(jN (b.1,m,())).bind λ(n,_)=>some (n,0,())) ((ui (c,aq (0-a),())).bind λ(d,j,_)=>Option.bind (α:=(aM×bW×Unit)) (Option.bind (α:=(Bool×bW×Unit)) (cond (b.1==true) (some (j,f,())) (some (false,f,()))) λ(o,e,_)=>cond o ((r0 (d,[1],())).bind λ(k,_)=>some (k,e,())) (some (d,e,()))) λ(g,_,_)=>(jN (b.1,g,())).bind λ(l,_)=>some (l,0,())))
 |.inr i=>some i
def wq:mX->Option ez:=λ(d,f,_)=>(loop (σ:=(Int×bW×bW×Unit)) (ρ:=(Int×bW×bW×Unit)) (λ(a,b,c,_)=>cond (decide (a>1048576)) ((o9 (b,(-1048576:Int),())).bind λ(i,_,_)=>some (.inl (aq (a-1048576),i,c,()))) (some (.inr (a,b,c,())))) (f,d,(false,([],())),())).bind λ(g,e,_,_)=>(o9 (e,aq (0-g),())).bind λ(h,_,_)=>some (h,())
def lI:dV->Option (bw×Bool×Unit):=λ(a,_)=>(bif a.1 then(uc ()).bind λ(j,_)=>some (j,false,()) else(zY (a.2.1,())).bind λ(b,_)=>(m3 (b,())).bind λ(aK,_)=>bif aK==0 then some ((false,((false,([],())),((0:Int),()))),true,()) else((wD (b,())).bind λ(c,_)=>Option.bind (α:=(bw×bW×Unit)⊕(bw×Bool×Unit)) (Option.bind (α:=(Bool×bw×bW×Unit)) ((o8 (b,())).bind λ(k,_)=>cond (decide (a.2.2.1>aq (65536-k))==false) (some (decide (a.2.2.1<aq ((-65536:Int)-c)),(false,((false,([],())),((0:Int),()))),b,())) (some (true,(false,((false,([],())),((0:Int),()))),b,()))) λ(l,m,e,_)=>cond l ((uc ()).bind λ(h,_)=>some (.inr (h,false,()))) (some (.inl (m,e,())))) λf=>match f with
 |.inl (_,d,_)=>((wq (d,c,())).bind λ(i,_)=>some ((false,(i,(aq (a.2.2.1+c),()))),true,()))
 |.inr g=>some g))
def qn:mX->Option dV:=λ(b,a,_)=>(lI ((false,(b,(a,()))),())).bind λ(c,_,_)=>some (c,())
def mi:a8->Option dV:=λ(b,_)=>(ue (b,())).bind λ(a,c,_)=>Option.bind (α:=(Int×Int×bw×Unit)⊕dV) (cond (a==2047) (some (.inr ((true,((false,([],())),((0:Int),()))),()))) (cond (a==0) (some (.inl ((-1074:Int),c,(false,((false,([],())),((0:Int),()))),()))) (some (.inl (aq (a-1075),eB IntKind.u64 c 4503599627370496,(false,((false,([],())),((0:Int),()))),()))))) λi=>match i with
 |.inl (f,g,e,_)=>((rY (aq g,())).bind λ(d,_)=>Option.bind (α:=(bw×bW×Unit)) ((zO (b,())).bind λ(l,_)=>cond l ((qp (d,())).bind λ(m,_)=>some (e,m,())) (some (e,d,()))) λ(_,h,_)=>(qn (h,f,())).bind λ(k,_)=>some (k,()))
 |.inr j=>some j
def ud:hF->Option (bw×bw×Bool×Unit):=λ(c,d,_)=>(lI (c,())).bind λ(a,aK,_)=>(lI (d,())).bind λ(b,e,_)=>(cond (aK==true) (some (a,b,e,())) (some (a,b,false,())))
def z6:h2->Option eG:=λ(c,a,_)=>Option.bind (α:=Unit⊕eG) (cond ((ar c==0)==false) (cond (ar a==0) (some (.inr ([],()))) (some (.inl ()))) (some (.inr ([],())))) λo=>match o with
 |.inl _=>((dI (aq (ar c+ar a)) (aq (ar c+ar a))).bind λl=>(loop (σ:=gZ) (ρ:=eG) (λ(b,g,_)=>cond (decide (b<ar c)) ((ax c b).bind λh=>(loop (σ:=n2) (ρ:=gZ) (λ(e,d,f,_)=>cond (decide (d<ar a)) ((ax a d).bind λi=>rd f (aq (b+d)) λj=>wr f (aq (b+d)) (bX (dc IntKind.u64 (aJ (aJ (aJ (aJ h*aJ i)+aJ j)+e)) 4294967295)) λs=>(da IntKind.u64 (aJ (aJ (aJ (aJ h*aJ i)+aJ j)+e)) 32).bind λr=>some (.inl (r,aQ d,s,()))) (some (.inr (e,f,())))) (0,0,g,())).bind λ(k,m,_)=>wr m (aq (b+ar a)) (bX k) λt=>some (.inl (aQ b,t,()))) (some (.inr (g,())))) (0,List.replicate l (0:Int),())).bind λ(n,_)=>(gG (n,())).bind λ(q,_)=>some (q,()))
 |.inr p=>some p
def wC:iQ->Option ez:=λ(a,b,_)=>(gG (a.2.1,())).bind λ(c,_)=>(gG (b.2.1,())).bind λ(aK,_)=>(z6 (c,aK,())).bind λ(d,_)=>(jN ((!(a.1==b.1)),d,())).bind λ(e,_)=>some (e,())
def tZ:hF->Option dV:=λ(b,c,_)=>(ud (b,c,())).bind λ(a,aK,d,_)=>(cond (!d) ((uc ()).bind λ(e,_)=>some (e,())) ((wC (a.2.1,aK.2.1,())).bind λ(f,_)=>(qn (f,aq (a.2.2.1+aK.2.2.1),())).bind λ(g,_)=>some (g,())))
def ua:dV->Option dV:=λ(b,_)=>(lI (b,())).bind λ(a,d,_)=>Option.bind (α:=hF) (cond d ((qp (a.2.1,())).bind λ(aK,_)=>some ((a.1,(aK,a.2.2)),(false,((false,([],())),((0:Int),()))),())) (some (a,(false,((false,([],())),((0:Int),()))),()))) λ(c,_,_)=>some (c,())
def lH:mX->Option ez:=λ(a,b,_)=>(o9 (a,b,())).bind λ(c,_,_)=>some (c,())
def zB:a8->Option dH:=λ(a,_)=>some ((a !=a),())
def zz:kZ->Option a8:=λ(a,b,_)=>(zB (a,())).bind λ(c,_)=>(zB (b,())).bind λ(aK,_)=>(cond c (cond aK (some (0,())) (some ((-1:Int),()))) (cond aK (some (1,())) (cond (decide (a<b)) (some ((-1:Int),())) (cond (decide (a>b)) (some (1,())) (some (0,()))))))
def rZ:h2->Option a8:=λ(b,c,_)=>(bif ar b !=ar c then(tY (ar b,ar c,())).bind λ(f,_)=>some (f,()) else((loop (σ:=a8) (ρ:=hI) (λ(a,_)=>cond (decide (a>=0)) ((ax b a).bind λh=>(ax c a).bind λi=>cond (h !=i) ((ax b a).bind λj=>(ax c a).bind λk=>(zz (j,k,())).bind λ(g,_)=>some (.inr (.inr (g,())))) (some (.inl (aq (a-1),())))) (some (.inr (.inl ())))) (aq (ar b-1),())).bind λd=>match d with
 |.inl _=>(some (0,()))
 |.inr e=>some e))
def uk:h2->Option eG:=λ(b,d,_)=>(dI (ar b) (ar b)).bind λi=>(loop (σ:=n2) (ρ:=eG) (λ(e,a,c,_)=>cond (decide (a<ar b)) (Option.bind (α:=gZ) ((ax b a).bind λg=>Option.bind (α:=gZ) (cond (decide (a<ar d)) ((ax d a).bind λn=>some (aJ (aJ (aJ g-e)-aJ n),c,())) (some (aJ (aJ g-e),c,()))) λ(f,j,_)=>wr j a (bX (dc IntKind.u64 f 4294967295)) λp=>(da IntKind.u64 f 32).bind λo=>some (dc IntKind.u64 o 1,p,())) λ(h,k,_)=>some (.inl (h,aQ a,k,()))) (some (.inr (c,())))) (0,0,List.replicate i (0:Int),())).bind λ(l,_)=>(gG (l,())).bind λ(m,_)=>some (m,())
def qo:iQ->Option ez:=λ(a,c,_)=>(gG (a.2.1,())).bind λ(b,_)=>(gG (c.2.1,())).bind λ(aK,_)=>(cond (a.1==c.1) ((r0 (b,aK,())).bind λ(f,_)=>(jN (a.1,f,())).bind λ(g,_)=>some (g,())) ((rZ (b,aK,())).bind λ(h,_)=>cond (decide (h>=0)) ((uk (b,aK,())).bind λ(i,_)=>(jN (a.1,i,())).bind λ(j,_)=>some (j,())) ((uk (aK,b,())).bind λ(d,_)=>(jN (c.1,d,())).bind λ(e,_)=>some (e,()))))
def ub:(ew×Unit)->Option dV:=λ(i,_)=>(loop (σ:=(Int×Int×bw×ew×Unit)) (ρ:=((Int×bw×ew×Unit)⊕dV)) (λ(c,e,k,b,_)=>cond (decide (e<ar i)) ((ax i e).bind λw=>(lI (w,())).bind λ(a,s,_)=>cond (!s) ((uc ()).bind λ(t,_)=>some (.inr (.inr (t,())))) ((bJ (b.length+([a]).length)).bind λ_=>some (.inl ((if a.2.2.1<c then a.2.2.1 else c),aQ e,k,(b++[a]),())))) (some (.inr (.inl (c,k,b,()))))) (0,0,(false,((false,([],())),((0:Int),()))),[],())).bind λn=>match n with
 |.inl (h,u,f,_)=>((loop (σ:=(Int×bw×ew×bW×Unit)) (ρ:=(bw×bW×Unit)) (λ(d,j,g,l,_)=>cond (decide (d<ar f)) (rd g d λm=>(lH (m.2.1,aq (m.2.2.1-h),())).bind λ(p,_)=>(qo (l,p,())).bind λ(q,_)=>some (.inl (aQ d,j,g,q,()))) (some (.inr (j,l,())))) (0,u,f,(false,([],())),())).bind λ(_,v,_)=>(qn (v,h,())).bind λ(r,_)=>some (r,()))
 |.inr o=>some o
def ob:dV->Option a8:=λ(a,_)=>(lI (a,())).bind λ(b,_,_)=>(m3 (b.2.1,())).bind λ(aK,_)=>some (aK,())
def o6:dV->Option dV:=λ(a,_)=>(lI (a,())).bind λ(b,_,_)=>some (b,())
def z5:kY->Option kY:=λ(a,c,_)=>(dI (ar a) (ar a)).bind λh=>(loop (σ:=n2) (ρ:=gZ) (λ(e,b,d,_)=>cond (decide (b>=0)) ((gn IntKind.u64 e 32).bind λf=>(ax a b).bind λg=>(gk IntKind.u64 (eB IntKind.u64 f (aJ g)) (aJ c)).bind λl=>wr d b (bX l) λn=>(fS (eB IntKind.u64 f (aJ g)) (aJ c)).bind λm=>some (.inl (m,aq (b-1),n,()))) (some (.inr (e,d,())))) (0,aq (ar a-1),List.replicate h (0:Int),())).bind λ(k,i,_)=>(gG (i,())).bind λ(j,_)=>some (j,bX k,())
def r2:a8->Option a8:=λ(b,_)=>(um (b,())).bind λ(a,_)=>some (aq (32-a),())
def wE:((aM×Nat×Nat)×aM×Unit)->Option kY:=λ(b,a,_)=>(bk (b.2.2-b.2.1) (ar a)).bind λV=>(bd b.1 (b.2.1+V) λP=>some P).bind λcv=>(gn IntKind.u64 (aJ cv) 32).bind λI=>(bk (b.2.2-b.2.1) (aq (ar a-1))).bind λad=>(bd b.1 (b.2.1+ad) λT=>some T).bind λK=>(ax a (aq (ar a-1))).bind λa0=>(gk IntKind.u64 (eB IntKind.u64 I (aJ K)) (aJ a0)).bind λa3=>(ax a (aq (ar a-1))).bind λa4=>(fS (eB IntKind.u64 I (aJ K)) (aJ a4)).bind λbl=>(loop (σ:=(c2×Int×Int×aM×Unit)) (ρ:=(c2×Int×aM×Unit)) (λ(g,h,r,m,_)=>Option.bind (α:=(c2×aM×Unit)⊕((c2×Int×Int×aM×Unit)⊕(c2×Int×aM×Unit))) (bif decide (h>4294967295)==false then(ax a (aq (ar a-2))).bind λbs=>(gn IntKind.u64 r 32).bind λce=>(bk (g.2-g.1) (aq (ar a-2))).bind λU=>(bd m (g.1+U) λN=>some N).bind λci=>bif decide (aJ (h*aJ bs)>eB IntKind.u64 ce (aJ ci)) then
 some (.inl (g,m,())) else some (.inr (.inr (g,h,m,()))) else some (.inl (g,m,()))) λam=>match am with
 |.inl (C,D,_)=>((ax a (aq (ar a-1))).bind λE=>cond (decide (aJ (r+aJ E)>4294967295)) (some (.inr (C,aJ (h-1),D,()))) (some (.inl (C,aJ (h-1),aJ (r+aJ E),D,()))))
 |.inr an=>some an) (b.2,a3,bl,b.1,())).bind λ(ap,i,av,_)=>(loop (σ:=(c2×Int×Int×Int×aM×Unit)) (ρ:=(c2×Int×Int×aM×Unit)) (λ(e,l,p,j,n,_)=>cond (decide (j<ar a)) ((ax a j).bind λu=>(da IntKind.u64 (aJ (aJ (i*aJ u)+l)) 32).bind λco=>(bk (e.2-e.1) j).bind λW=>(bd n (e.1+W) λO=>some O).bind λF=>(bk (e.2-e.1) j).bind λy=>(bd n (e.1+y) λ_=>some (n.set (e.1+y) (bX (dc IntKind.u64 (aJ (aJ (aJ F-dc IntKind.u64 (aJ (aJ (i*aJ u)+l)) 4294967295)-p)) 4294967295)))).bind λd1=>(da IntKind.u64 (aJ (aJ (aJ F-dc IntKind.u64 (aJ (aJ (i*aJ u)+l)) 4294967295)-p)) 32).bind λcs=>some (.inl (e,co,dc IntKind.u64 cs 1,aQ j,d1,()))) (some (.inr (e,l,p,n,())))) (ap,0,0,0,av,())).bind λ(c,x,w,s,_)=>(bk (c.2-c.1) (ar a)).bind λX=>(bd s (c.1+X) λQ=>some Q).bind λG=>
 (bk (c.2-c.1) (ar a)).bind λz=>(bd s (c.1+z) λ_=>some (s.set (c.1+z) (bX (dc IntKind.u64 (aJ (aJ (aJ G-x)-w)) 4294967295)))).bind λv=>(da IntKind.u64 (aJ (aJ (aJ G-x)-w)) 32).bind λdl=>(bif dc IntKind.u64 dl 1==0 then cond (Nat.beq c.1 b.2.1&&(Nat.beq c.2 b.2.2&&(Nat.beq v.length ((b.1).length)&&Nat.blt c.1 c.2))) (some (v,bX i,())) none else(loop (σ:=(c2×Int×Int×aM×Unit)) (ρ:=(c2×Int×aM×Unit)) (λ(f,q,k,o,_)=>cond (decide (k<ar a)) ((ax a k).bind λH=>(bk (f.2-f.1) k).bind λY=>(bd o (f.1+Y) λR=>some R).bind λJ=>(bk (f.2-f.1) k).bind λA=>(bd o (f.1+A) λ_=>some (o.set (f.1+A) (bX (dc IntKind.u64 (aJ (aJ (aJ J+aJ H)+q)) 4294967295)))).bind λd2=>(da IntKind.u64 (aJ (aJ (aJ J+aJ H)+q)) 32).bind λds=>some (.inl (f,ds,aQ k,d2,()))) (some (.inr (f,q,o,())))) (c,0,0,v,())).bind λ(d,M,t,_)=>
 (bk (d.2-d.1) (ar a)).bind λZ=>(bd t (d.1+Z) λS=>some S).bind λd0=>(bk (d.2-d.1) (ar a)).bind λB=>(bd t (d.1+B) λ_=>some (t.set (d.1+B) (bX (d0+bX M)))).bind λL=>cond (Nat.beq d.1 b.2.1&&(Nat.beq d.2 b.2.2&&(Nat.beq L.length ((b.1).length)&&Nat.blt d.1 d.2))) (some (L,bX (aJ (i-1)),())) none)
def wF:h2->Option h2:=λ(a,b,_)=>(rZ (a,b,())).bind λ(t,_)=>(bif decide (t<0) then(r4 (a,())).bind λ(u,_)=>some ([],u,()) else bif ar b==1 then(ax b 0).bind λC=>(z5 (a,C,())).bind λ(v,w,_)=>(gG ([w],())).bind λ(x,_)=>some (v,x,()) else(ax b (aq (ar b-1))).bind λD=>(r2 (D,())).bind λ(h,_)=>(r1 (b,h,())).bind λ(e,_)=>(dI (aQ (ar a)) (aQ (ar a))).bind λc=>(r1 (a,h,())).bind λ(i,_)=>(dI (aq (ar (hL (List.replicate c (0:Int)) i 0 (List.replicate c (0:Int)).length)-ar e)) (aq (ar (hL (List.replicate c (0:Int)) i 0 (List.replicate c (0:Int)).length)-ar e))).bind λn=>(loop (σ:=(Int×aM×aM×Unit)) (ρ:=h2) (λ(d,p,g,_)=>bif decide (d>=0) then((e9 d).bind λj=>(e9 (aQ (aq (d+ar e)))).bind λk=>(fy j k g.length).bind λ_=>(sV g.length).map λ_=>(j,k)).bind λf=>
 cond (Nat.blt f.1 f.2) ((wE ((g,f.1,f.2),e,())).bind λ(r,y,_)=>wr p d y λE=>some (.inl (aq (d-1),E,r,()))) none else some (.inr (p,g,()))) (aq (ar (List.replicate n (0:Int))-1),List.replicate n (0:Int),hL (List.replicate c (0:Int)) i 0 (List.replicate c (0:Int)).length,())).bind λ(s,q,_)=>((some (0)).bind λl=>(e9 (ar e)).bind λm=>(fy l m q.length).map λ_=>(l,m)).bind λo=>(gG (((q.take o.2).drop o.1),())).bind λ(z,_)=>(ui (z,h,())).bind λ(A,_,_)=>(gG (s,())).bind λ(B,_)=>some (B,A,()))
def z2:eG->Option eG:=λ(b,_)=>(cond (ar b==0) (some ([],())) ((uj (b,())).bind λ(e,_)=>(gk IntKind.i64 (aQ e) 2).bind λh=>(r1 ([1],h,())).bind λ(aK,_)=>(loop (σ:=eG) (ρ:=eG) (λ(a,_)=>(wF (b,a,())).bind λ(f,_,_)=>(r0 (a,f,())).bind λ(g,_)=>(ui (g,1,())).bind λ(c,_,_)=>(rZ (c,a,())).bind λ(d,_)=>cond (decide (d>=0)) (some (.inr (a,()))) (some (.inl (c,())))) (aK,())).bind some))
def zZ:ez->Option mX:=λ(a,_)=>(m3 (a,())).bind λ(b,_)=>(cond (decide (b<0)) (some ((false,(([]:aM),())),11,())) ((gG (a.2.1,())).bind λ(c,_)=>(z2 (c,())).bind λ(aK,_)=>(jN (false,aK,())).bind λ(d,_)=>some (d,0,())))
def uh:iQ->Option a8:=λ(b,c,_)=>(m3 (b,())).bind λ(a,_)=>(m3 (c,())).bind λ(aK,_)=>(cond (decide (a<aK)) (some ((-1:Int),())) (cond (decide (a>aK)) (some (1,())) ((gG (b.2.1,())).bind λ(d,_)=>(gG (c.2.1,())).bind λ(e,_)=>(rZ (d,e,())).bind λ(f,_)=>some (aq (a*f),()))))
def zJ:(bw×Int×Unit)->Option (qa×Unit):=λ(c,a,_)=>(o8 (c.2.1,())).bind λ(b,_)=>Option.bind (α:=(Int×qa×Unit)) ((fS (aq (c.2.2.1-(if(aq (aq (2*aq (a+3))-b))>0 then aq (aq (2*aq (a+3))-b) else 0))) 2).bind λj=>cond (j !=0) (some (aQ (if(aq (aq (2*aq (a+3))-b))>0 then aq (aq (2*aq (a+3))-b) else 0),(false,((false,([],())),((0:Int),(false,())))),())) (some ((if(aq (aq (2*aq (a+3))-b))>0 then aq (aq (2*aq (a+3))-b) else 0),(false,((false,([],())),((0:Int),(false,())))),()))) λ(e,_,_)=>(lH (c.2.1,e,())).bind λ(f,_)=>(zZ (f,())).bind λ(d,_,_)=>(gk IntKind.i64 (aq (c.2.2.1-e)) 2).bind λi=>(wC (d,d,())).bind λ(g,_)=>(uh (g,f,())).bind λ(h,_)=>some ((false,(d,(i,((h !=0),())))),())
def zH:(qa×Unit)->Option a8:=λ(a,_)=>(o8 (a.2.1,())).bind λ(b,_)=>some (aq (aq (a.2.2.1+b)-1),())
def z1:iQ->Option ez:=λ(b,a,_)=>(qo (b,((!a.1),a.2),())).bind λ(c,_)=>some (c,())
def wl:(qa×Int×Unit)->Option (bW×Int×Bool×Unit):=λ(a,b,_)=>(o8 (a.2.1,())).bind λ(h,_)=>(cond (decide (b>h)) (some ((false,(([]:aM),())),(-1:Int),false,())) ((wq (a.2.1,b,())).bind λ(aK,_)=>(lH (aK,b,())).bind λ(i,_)=>(z1 (a.2.1,i,())).bind λ(c,_)=>(rY (1,())).bind λ(j,_)=>(lH (j,aq (b-1),())).bind λ(k,_)=>(uh (c,k,())).bind λ(d,_)=>Option.bind (α:=(Int×bW×bW×Unit)) (cond ((d==0)==true) (cond a.2.2.2.1 (some (1,aK,c,())) (some (d,aK,c,()))) (some (d,aK,c,()))) λ(e,f,l,_)=>(m3 (l,())).bind λ(g,_)=>cond ((g==0)==true) (some (f,e,(!a.2.2.2.1),())) (some (f,e,false,()))))
def zI:(qa×Int×Int×Unit)->Option ez:=λ(c,e,d,_)=>Option.bind (α:=(Int×Bool×bW×bW×Unit)) (cond (decide (e<=c.2.2.1)) ((lH (c.2.1,aq (c.2.2.1-e),())).bind λ(aK,_)=>some ((-1:Int),true,(false,([],())),aK,())) ((wl (c,aq (e-c.2.2.1),())).bind λ(s,t,u,_)=>some (t,u,(false,([],())),s,()))) λ(f,l,b,a,_)=>Option.bind (α:=(Bool×bW×bW×Unit)) (cond l (some (false,b,a,())) (cond (d==1) (some (c.1,b,a,())) (cond (d==2) (some ((!c.1),b,a,())) (cond (d==3) (some (false,b,a,())) (cond (decide (f>0)==false) (cond ((f==0)==true) ((m3 (a,())).bind λ(n,_)=>cond ((n !=0)==true) ((wD (a,())).bind λ(o,_)=>some ((o==0),b,a,())) (some (false,b,a,()))) (some (false,b,a,()))) (some (true,b,a,()))))))) λ(k,i,g,_)=>Option.bind (α:=iQ) (cond k ((rY (1,())).bind λ(p,_)=>(qo (g,p,())).bind λ(q,_)=>some (i,q,())) (some (i,g,()))) λ(j,h,_)=>Option.bind (α:=iQ) (cond c.1 ((qp (h,())).bind λ(r,_)=>some (j,r,())) (some (j,h,()))) λ(_,m,_)=>some (m,())
def rX:ez->Option ez:=λ(a,_)=>(r4 (a.2.1,())).bind λ(b,_)=>(jN (false,b,())).bind λ(c,_)=>some (c,())
def zX:ez->Option cW:=λ(c,_)=>(gG (c.2.1,())).bind λ(d,_)=>(bif decide (ar d>2) then some (0,false,()) else((loop (σ:=kZ) (ρ:=a8) (λ(e,b,_)=>cond (decide (b<ar d)) ((ax d b).bind λj=>(gn IntKind.u64 (aJ j) (aq (32*b))).bind λk=>some (.inl (eB IntKind.u64 e k,aQ b,()))) (some (.inr (e,())))) (0,0,())).bind λ(a,_)=>Option.bind (α:=Unit⊕cW) (Option.bind (α:=dH) (cond (c.1==true) (cond (decide (a>0)==true) (some (decide (a<=9223372036854775808),())) (some (false,()))) (some (false,()))) λ(h,_)=>cond h (some (.inr (aq (aq (0-aq (aJ (a-1)))-1),true,()))) (Option.bind (α:=dH) (cond (decide (a<9223372036854775808)==true) (cond ((!c.1)==false) (some ((a==0),())) (some (true,()))) (some (false,()))) λ(i,_)=>cond i (some (.inr (aq a,true,()))) (some (.inl ())))) λf=>match f with
 |.inl _=>(some (0,false,()))
 |.inr g=>some g))
def rW:cW->Option a8:=λ(a,b,_)=>(cond b (some (eB IntKind.u64 a 9223372036854775808,())) (some (a,())))
def zP:cY->Option a8:=λ(a,b,_)=>Option.bind (α:=Unit⊕a8) (Option.bind (α:=dH) (cond ((b==3)==false) (cond ((b==1)==true) (cond ((!a)==false) (cond ((b==2)==true) (some (a,())) (some (false,()))) (some (true,()))) (cond ((b==2)==true) (some (a,())) (some (false,())))) (some (true,()))) λ(f,_)=>cond f ((rW (9218868437227405311,a,())).bind λ(aK,_)=>some (.inr (aK,()))) (some (.inl ()))) λc=>match c with
 |.inl _=>((rW (9218868437227405312,a,())).bind λ(e,_)=>some (e,()))
 |.inr d=>some d
def ww:(qa×Int×Unit)->Option a8:=λ(b,d,_)=>(zH (b,())).bind λ(a,_)=>(zI (b,(if(-1074:Int)>aq (a-52) then(-1074:Int) else aq (a-52)),d,())).bind λ(aK,_)=>(rX (aK,())).bind λ(j,_)=>(zX (j,())).bind λ(f,_,_)=>Option.bind (α:=kZ) (cond (aJ f==9007199254740992) (some (aQ (if(-1074:Int)>aq (a-52) then(-1074:Int) else aq (a-52)),4503599627370496,())) (some ((if(-1074:Int)>aq (a-52) then(-1074:Int) else aq (a-52)),aJ f,()))) λ(e,c,_)=>(cond (decide (c<4503599627370496)) ((rW (c,b.1,())).bind λ(g,_)=>some (g,())) (cond (decide (aq (e+1075)>=2047)) ((zP (b.1,d,())).bind λ(h,_)=>some (h,())) ((gn IntKind.u64 (aJ (aq (e+1075))) 52).bind λk=>(rW (eB IntKind.u64 k (aJ (c-4503599627370496)),b.1,())).bind λ(i,_)=>some (i,()))))
def wv:(bw×Int×Unit)->Option a8:=λ(c,e,_)=>(o6 (c,())).bind λ(a,_)=>Option.bind (α:=dV⊕a8) (Option.bind (α:=(Bool×bw×Unit)) (cond (a.1==false) ((ob (a,())).bind λ(aK,_)=>some (decide (aK<0),a,())) (some (true,a,()))) λ(k,b,_)=>cond k (some (.inr (9221120237041090560,()))) ((ob (b,())).bind λ(i,_)=>cond (i==0) (some (.inr (0,()))) (some (.inl (b,()))))) λf=>match f with
 |.inl (d,_)=>((zJ (d,56,())).bind λ(j,_)=>(ww (j,e,())).bind λ(h,_)=>some (h,()))
 |.inr g=>some g
def ws:a8->Option a8:=λ(c,_)=>(ue (c,())).bind λ(a,b,_)=>Option.bind (α:=dH) (cond ((a==2047)==true) (some ((b !=0),())) (some (false,()))) λ(d,_)=>(cond d (some (3,())) (cond (a==2047) (some (2,())) (cond ((a==0)==true) (cond (b==0) (some (0,())) (some (1,()))) (some (1,())))))
def zW:iQ->Option (bW×bW×Int×Unit):=λ(a,d,_)=>(gG (d.2.1,())).bind λ(b,_)=>(cond (ar b==0) (some ((false,(([]:aM),())),(false,(([]:aM),())),8,())) ((gG (a.2.1,())).bind λ(aK,_)=>(wF (aK,b,())).bind λ(f,c,_)=>Option.bind (α:=(aM×aM×bW×bW×Unit)) (Option.bind (α:=(Bool×bW×bW×Unit)) (cond (a.1==true) (some (decide (ar c>0),(false,([],())),(false,([],())),())) (some (false,(false,([],())),(false,([],())),()))) λ(n,e,g,_)=>cond n ((r0 (f,[1],())).bind λ(j,_)=>(uk (b,c,())).bind λ(k,_)=>some (j,k,e,g,())) (some (f,c,e,g,()))) λ(h,i,_,_,_)=>(jN ((!(a.1==d.1)),h,())).bind λ(l,_)=>(jN (false,i,())).bind λ(m,_)=>some (l,m,0,())))
def zG:(bw×bw×Int×Unit)->Option (qa×Unit):=λ(a,b,c,_)=>(o8 (b.2.1,())).bind λ(aK,_)=>(o8 (a.2.1,())).bind λ(d,_)=>(rX (a.2.1,())).bind λ(g,_)=>(lH (g,(if(aq (aq (aq (c+3)+aK)-d))>0 then aq (aq (aq (c+3)+aK)-d) else 0),())).bind λ(h,_)=>(rX (b.2.1,())).bind λ(i,_)=>(zW (h,i,())).bind λ(j,e,_,_)=>(m3 (e,())).bind λ(f,_)=>some (((!(a.2.1.1==b.2.1.1)),(j,(aq (aq (a.2.2.1-(if(aq (aq (aq (c+3)+aK)-d))>0 then aq (aq (aq (c+3)+aK)-d) else 0))-b.2.2.1),((f !=0),())))),())
def wu:(bw×bw×Int×Unit)->Option a8:=λ(c,f,h,_)=>(o6 (c,())).bind λ(aK,_)=>(o6 (f,())).bind λ(a,_)=>Option.bind (α:=hF⊕a8) (Option.bind (α:=(Bool×bw×bw×Unit)) (cond (aK.1==false) (cond (a.1==false) ((ob (a,())).bind λ(n,_)=>some ((n==0),aK,a,())) (some (true,aK,a,()))) (some (true,aK,a,()))) λ(o,b,g,_)=>cond o (some (.inr (9221120237041090560,()))) ((ob (b,())).bind λ(k,_)=>cond (k==0) (some (.inr (0,()))) (some (.inl (b,g,()))))) λi=>match i with
 |.inl (d,e,_)=>((zG (d,e,56,())).bind λ(l,_)=>(ww (l,h,())).bind λ(m,_)=>some (m,()))
 |.inr j=>some j
def qu:a8->Option dH:=λ(a,_)=>(da IntKind.u64 a 52).bind λb=>some ((dc IntKind.u64 b 2047 !=2047),())
def AK:a8->Option dH:=λ(a,_)=>some ((dc IntKind.u64 a 9223372036854775808 !=0),())
def qv:a8->Option dV:=λ(a,_)=>(qu (a,())).bind λ(f,_)=>(cond (!f) ((qs ()).bind λ(g,_)=>some (g,())) ((da IntKind.u64 a 52).bind λc=>Option.bind (α:=(Int×Int×bw×Unit)) (cond (decide (aq (dc IntKind.u64 c 2047)>0)) (some (eB IntKind.u64 (dc IntKind.u64 a 4503599627370495) 4503599627370496,aq (aq (dc IntKind.u64 c 2047)-1075),(false,((false,([],())),((0:Int),()))),())) (some (dc IntKind.u64 a 4503599627370495,(-1074:Int),(false,((false,([],())),((0:Int),()))),()))) λ(b,d,_,_)=>(AK (a,())).bind λ(h,_)=>(da IntKind.u64 b 32).bind λi=>(ml ((h,([bX b,bX i],())),d,())).bind λ(e,_)=>some (e,())))
def AA:dV->Option dV:=λ(b,_)=>(iU (b,())).bind λ(a,_)=>(cond a.1 (some (a,())) ((pa (a.2.1,())).bind λ(c,_)=>(ml (c,a.2.2.1,())).bind λ(aK,_)=>some (aK,())))
def wT:(ew×Unit)->Option dV:=λ(h,_)=>(loop (σ:=(Int×Int×bw×bW×Unit)) (ρ:=((Int×bw×bW×Unit)⊕dV)) (λ(b,e,c,d,_)=>bif decide (e<ar h) then(Option.bind (α:=(Int×bw×bW×Unit)⊕((Int×Int×bw×bW×Unit)⊕((Int×bw×bW×Unit)⊕dV))) ((ax h e).bind λv=>(iU (v,())).bind λ(a,_)=>cond a.1 ((qs ()).bind λ(q,_)=>some (.inr (.inr (.inr (q,()))))) ((iT (a.2.1,())).bind λ(r,_)=>cond (r==0) (some (.inl (b,c,d,()))) ((iT (d,())).bind λ(k,_)=>cond (k==0) (some (.inl (a.2.2.1,c,a.2.1,()))) (cond (decide (a.2.2.1>=b)) ((jO (a.2.1,aq (a.2.2.1-b),())).bind λ(l,_)=>(m4 (d,l,())).bind λ(m,_)=>some (.inl (b,c,m,()))) ((jO (d,aq (b-a.2.2.1),())).bind λ(n,_)=>(m4 (n,a.2.1,())).bind λ(o,_)=>some (.inl (a.2.2.1,c,o,()))))))) λf=>match f with
 |.inl (i,s,t,_)=>(some (.inl (i,aQ e,s,t,())))
 |.inr g=>some g) else some (.inr (.inl (b,c,d,())))) (0,0,(false,((false,([],())),((0:Int),()))),(false,(([]:aM),())),())).bind λf=>match f with
 |.inl (j,_,u,_)=>((ml (u,j,())).bind λ(p,_)=>some (p,()))
 |.inr g=>some g
def Az:h2->Option eG:=λ(d,b,_)=>(dI (aq (ar d+ar b)) (aq (ar d+ar b))).bind λl=>(loop (σ:=gZ) (ρ:=eG) (λ(a,g,_)=>cond (decide (a<ar d)) ((loop (σ:=n2) (ρ:=gZ) (λ(e,c,f,_)=>cond (decide (c<ar b)) ((ax d a).bind λj=>(ax b c).bind λh=>rd f (aq (a+c)) λi=>wr f (aq (a+c)) (bX (aJ (aJ (e+aJ (aJ j*aJ h))+aJ i))) λp=>(da IntKind.u64 (aJ (aJ (e+aJ (aJ j*aJ h))+aJ i)) 32).bind λo=>some (.inl (o,aQ c,p,()))) (some (.inr (e,f,())))) (0,0,g,())).bind λ(k,m,_)=>wr m (aq (a+ar b)) (bX k) λq=>some (.inl (aQ a,q,()))) (some (.inr (g,())))) (0,List.replicate l (0:Int),())).bind λ(n,_)=>some (n,())
def wN:iQ->Option ez:=λ(a,b,_)=>(kA (a.2.1,())).bind λ(c,_)=>(kA (b.2.1,())).bind λ(aK,_)=>(Az (c,aK,())).bind λ(d,_)=>(kf ((!(a.1==b.1)),d,())).bind λ(e,_)=>some (e,())
def AF:hF->Option dV:=λ(d,f,_)=>(iU (d,())).bind λ(a,_)=>(iU (f,())).bind λ(aK,_)=>Option.bind (α:=(bw×bw×bw×Unit)⊕dV) (Option.bind (α:=(Bool×bw×bw×bw×Unit)) (cond (a.1==false) (some (aK.1,a,aK,(false,((false,([],())),((0:Int),()))),())) (some (true,a,aK,(false,((false,([],())),((0:Int),()))),()))) λ(m,e,g,n,_)=>cond m ((qs ()).bind λ(l,_)=>some (.inr (l,()))) (some (.inl (e,g,n,())))) λh=>match h with
 |.inl (b,c,_,_)=>((wN (b.2.1,c.2.1,())).bind λ(j,_)=>(ml (j,aq (b.2.2.1+c.2.2.1),())).bind λ(k,_)=>some (k,()))
 |.inr i=>some i
def uy:dV->Option dV:=λ(b,_)=>(iU (b,())).bind λ(a,_)=>(cond a.1 (some (a,())) ((wO (a.2.1,())).bind λ(c,_)=>(ml (c,a.2.2.1,())).bind λ(aK,_)=>some (aK,())))
def wR:(aM×aM×Int×Int×Unit)->Option (aM×Bool×Unit):=λ(w,b,i,r,_)=>(dI (aQ (ar b)) (aQ (ar b))).bind λs=>(loop (σ:=(Int×Int×Int×aM×aM×Unit)) (ρ:=(Int×aM×aM×Unit)) (λ(d,h,a,g,f,_)=>cond (decide (a<=ar b)) (Option.bind (α:=(Int×Int×aM×aM×Unit)) (Option.bind (α:=(Int×aM×aM×Unit)) (cond (decide (a<ar b)) ((ax b a).bind λz=>some (aJ (h+aJ (r*aJ z)),g,f,())) (some (h,g,f,()))) λ(e,k,t,_)=>rd k (aq (a+i)) λn=>(da IntKind.u64 e 32).bind λA=>wr t a (bX (aJ (aJ (aJ n-d)-dc IntKind.u64 e 4294967295))) λD=>(da IntKind.u64 (aJ (aJ (aJ n-d)-dc IntKind.u64 e 4294967295)) 63).bind λB=>some (B,A,k,D,())) λ(o,q,x,u,_)=>some (.inl (o,q,aQ a,x,u,()))) (some (.inr (d,g,f,())))) (0,0,0,w,List.replicate s (0:Int),())).bind λ(p,l,v,_)=>
 (cond (p !=0) (some (l,false,())) ((loop (σ:=(Int×aM×aM×Unit)) (ρ:=eG) (λ(c,m,j,_)=>cond (decide (c<=ar b)) (rd j c λC=>wr m (aq (c+i)) C λE=>some (.inl (aQ c,E,j,()))) (some (.inr (m,())))) (0,l,v,())).bind λ(y,_)=>some (y,true,())))
def Ay:h2->Option h2:=λ(b,a,_)=>(wP (b,a,())).bind λ(u,_)=>(bif decide (u<0) then some ([],b,()) else(ax a (aq (ar a-1))).bind λE=>(r2 (E,())).bind λ(i,_)=>(uw (b,i,())).bind λ(e,_)=>(uw (a,i,())).bind λ(f,_)=>((some (0)).bind λj=>(e9 (ar a)).bind λk=>(fy j k f.length).bind λ_=>(sV f.length).map λ_=>(j,k)).bind λd=>Option.bind (α:=h2) (cond (ar e==ar b) ((bJ (e.length+([0]).length)).bind λ_=>some (((f.take d.2).drop d.1),(e++[0]),())) (some (((f.take d.2).drop d.1),e,()))) λ(o,A,_)=>(dI (aQ (aq (ar b-ar a))) (aQ (aq (ar b-ar a)))).bind λr=>(loop (σ:=(Int×aM×aM×Unit)) (ρ:=h2) (λ(c,g,m,_)=>bif decide (c>=0) then rd g (aq (c+ar a)) λF=>(gn IntKind.u64 (aJ F) 32).bind λG=>rd g (aq (aq (c+ar a)-1)) λH=>
 (ax o (aq (ar a-1))).bind λI=>(gk IntKind.u64 (eB IntKind.u64 G (aJ H)) (aJ I)).bind λp=>(loop (σ:=(Int×aM×aM×Unit)) (ρ:=(Int×aM×aM×Unit)) (λ(h,B,n,_)=>(wR (B,o,c,h,())).bind λ(l,v,_)=>cond (!v) (some (.inl (aJ (h-1),l,n,()))) (some (.inr (h,l,n,())))) ((if 4294967295<p then 4294967295 else p),g,m,())).bind λ(q,C,s,_)=>wr s c (bX q) λJ=>some (.inl (aq (c-1),C,J,())) else some (.inr (g,m,()))) (aq (ar b-ar a),A,List.replicate r (0:Int),())).bind λ(D,t,_)=>(kA (D,())).bind λ(w,_)=>(ux (w,i,())).bind λ(x,_,_)=>(kA (t,())).bind λ(y,_)=>(kA (x,())).bind λ(z,_)=>some (y,z,()))
def wL:iQ->Option iQ:=λ(e,f,_)=>(oc (e,())).bind λ(a,_)=>(oc (f,())).bind λ(aK,_)=>(Ay (a.2.1,aK.2.1,())).bind λ(m,n,_)=>(kf ((!(a.1==aK.1)),m,())).bind λ(b,_)=>(kf (a.1,n,())).bind λ(c,_)=>Option.bind (α:=(bW×bW×bW×bW×Unit)) ((iT (c,())).bind λ(o,_)=>cond (decide (o<0)) ((pa (aK,())).bind λ(h,_)=>(m4 (c,h,())).bind λ(d,_)=>cond aK.1 ((pc (1,())).bind λ(i,_)=>(m4 (b,i,())).bind λ(j,_)=>some ((false,([],())),(false,([],())),j,d,())) ((pc (1,())).bind λ(k,_)=>(uv (b,k,())).bind λ(l,_)=>some ((false,([],())),(false,([],())),l,d,()))) (some ((false,([],())),(false,([],())),b,c,()))) λ(_,_,g,p,_)=>some (g,p,())
def uu:iQ->Option a8:=λ(a,b,_)=>(uv (a,b,())).bind λ(c,_)=>(iT (c,())).bind λ(aK,_)=>some (aK,())
def Aw:ez->Option ez:=λ(b,_)=>(iT (b,())).bind λ(f,_)=>(cond (f==0) (some ((false,(([]:aM),())),())) ((pc (1,())).bind λ(g,_)=>(pb (b,())).bind λ(aK,_)=>(gk IntKind.i64 (aQ aK) 2).bind λk=>(jO (g,k,())).bind λ(h,_)=>(loop (σ:=iQ) (ρ:=ez) (λ(j,a,_)=>(wL (b,a,())).bind λ(i,_,_)=>(m4 (a,i,())).bind λ(d,_)=>(jO (d,(-1:Int),())).bind λ(c,_)=>(uu (c,a,())).bind λ(e,_)=>cond (decide (e>=0)) (some (.inr (a,()))) (some (.inl (j,c,())))) ((false,([],())),h,())).bind some))
def AH:(bW×Int×Int×Unit)->Option (bW×Int×Bool×Unit):=λ(c,d,a,_)=>(pb (c,())).bind λ(aK,_)=>Option.bind (α:=(Int×bW×Unit)) ((fS (aq (d-(if 0>aq (aq (aq (2*a)+6)-aK) then 0 else aq (aq (aq (2*a)+6)-aK)))) 2).bind λj=>cond (j !=0) (some (aQ (if 0>aq (aq (aq (2*a)+6)-aK) then 0 else aq (aq (aq (2*a)+6)-aK)),(false,([],())),())) (some ((if 0>aq (aq (aq (2*a)+6)-aK) then 0 else aq (aq (aq (2*a)+6)-aK)),(false,([],())),()))) λ(e,_,_)=>(jO (c,e,())).bind λ(f,_)=>(Aw (f,())).bind λ(b,_)=>(gk IntKind.i64 (aq (d-e)) 2).bind λi=>(wN (b,b,())).bind λ(g,_)=>(uu (g,f,())).bind λ(h,_)=>some (b,i,(h !=0),())
def AM:(bw×Int×Unit)->Option a8:=λ(c,d,_)=>(iU (c,())).bind λ(b,_)=>Option.bind (α:=dV⊕a8) (cond (b.1==false) ((iT (b.2.1,())).bind λ(aK,_)=>cond (decide (aK<0)) (some (.inr (9221120237041090560,()))) (some (.inl (b,())))) (some (.inr (9221120237041090560,())))) λe=>match e with
 |.inl (a,_)=>((iT (a.2.1,())).bind λ(h,_)=>cond (h==0) (some (0,())) ((AH (a.2.1,a.2.2.1,60,())).bind λ(i,j,k,_)=>(uA (false,i,j,k,d,())).bind λ(g,_)=>some (g,())))
 |.inr f=>some f
def wS:dV->Option a8:=λ(b,_)=>(iU (b,())).bind λ(a,_)=>(cond a.1 (some (0,())) ((iT (a.2.1,())).bind λ(c,_)=>some (c,())))
def AG:(bW×bW×Int×Unit)->Option (bW×Int×Bool×Unit):=λ(c,d,a,_)=>(pb (d,())).bind λ(aK,_)=>(pb (c,())).bind λ(b,_)=>(jO (c,(if 0>aq (aq (aq (a+2)+aK)-b) then 0 else aq (aq (aq (a+2)+aK)-b)),())).bind λ(e,_)=>(wL (e,d,())).bind λ(f,g,_)=>(iT (g,())).bind λ(h,_)=>some (f,aq (0-(if 0>aq (aq (aq (a+2)+aK)-b) then 0 else aq (aq (aq (a+2)+aK)-b))),(h !=0),())
def AL:(bw×bw×Int×Unit)->Option a8:=λ(d,e,f,_)=>(iU (d,())).bind λ(aK,_)=>(iU (e,())).bind λ(c,_)=>Option.bind (α:=hF⊕a8) (cond (aK.1==false) (cond (c.1==false) ((iT (c.2.1,())).bind λ(o,_)=>cond (o==0) (some (.inr (9221120237041090560,()))) (some (.inl (aK,c,())))) (some (.inr (9221120237041090560,())))) (some (.inr (9221120237041090560,())))) λg=>match g with
 |.inl (a,b,_)=>((iT (a.2.1,())).bind λ(p,_)=>cond (p==0) (some (0,())) ((pa (a.2.1,())).bind λ(i,_)=>(pa (b.2.1,())).bind λ(j,_)=>(AG (i,j,60,())).bind λ(k,l,m,_)=>(uA ((!(a.2.1.1==b.2.1.1)),k,aq (aq (a.2.2.1-b.2.2.1)+l),m,f,())).bind λ(n,_)=>some (n,())))
 |.inr h=>some h
def qt:hF->Option (bW×bW×Int×Unit):=λ(a,b,_)=>(iT (a.2.1,())).bind λ(c,_)=>(cond (c==0) (some (a.2.1,b.2.1,b.2.2.1,())) ((iT (b.2.1,())).bind λ(aK,_)=>cond (aK==0) (some (a.2.1,b.2.1,a.2.2.1,())) (cond (decide (a.2.2.1>b.2.2.1)) ((jO (a.2.1,aq (a.2.2.1-b.2.2.1),())).bind λ(d,_)=>some (d,b.2.1,b.2.2.1,())) ((jO (b.2.1,aq (b.2.2.1-a.2.2.1),())).bind λ(e,_)=>some (a.2.1,e,a.2.2.1,())))))
def AB:hF->Option dV:=λ(b,f,_)=>(iU (b,())).bind λ(a,_)=>(iU (f,())).bind λ(aK,_)=>Option.bind (α:=(bw×bw×bw×Unit)⊕dV) (Option.bind (α:=(Bool×bw×bw×bw×Unit)) (cond (a.1==false) (some (aK.1,a,aK,(false,((false,([],())),((0:Int),()))),())) (some (true,a,aK,(false,((false,([],())),((0:Int),()))),()))) λ(p,d,g,q,_)=>cond p ((qs ()).bind λ(o,_)=>some (.inr (o,()))) (some (.inl (d,g,q,())))) λh=>match h with
 |.inl (c,e,_,_)=>((qt (c,e,())).bind λ(j,k,l,_)=>(m4 (j,k,())).bind λ(m,_)=>(ml (m,l,())).bind λ(n,_)=>some (n,()))
 |.inr i=>some i
def AI:hF->Option dV:=λ(a,b,_)=>(uy (b,())).bind λ(c,_)=>(AB (a,c,())).bind λ(aK,_)=>some (aK,())
def AC:hF->Option cW:=λ(b,e,_)=>(iU (b,())).bind λ(a,_)=>(iU (e,())).bind λ(aK,_)=>Option.bind (α:=hF⊕cW) (Option.bind (α:=(Bool×bw×bw×Unit)) (cond (a.1==false) (some (aK.1,a,aK,())) (some (true,a,aK,()))) λ(m,c,f,_)=>cond m (some (.inr (0,false,()))) (some (.inl (c,f,())))) λh=>match h with
 |.inl (d,g,_)=>((qt (d,g,())).bind λ(j,k,_,_)=>(uu (j,k,())).bind λ(l,_)=>some (l,true,()))
 |.inr i=>some i
def zF:a8->Option dV:=λ(a,_)=>(rY (a,())).bind λ(b,_)=>(qn (b,0,())).bind λ(c,_)=>some (c,())
def wo:hF->Option (bW×bW×Int×Unit):=λ(a,b,_)=>(lH (a.2.1,aq (a.2.2.1-(if b.2.2.1<a.2.2.1 then b.2.2.1 else a.2.2.1)),())).bind λ(c,_)=>(lH (b.2.1,aq (b.2.2.1-(if b.2.2.1<a.2.2.1 then b.2.2.1 else a.2.2.1)),())).bind λ(aK,_)=>some (c,aK,(if b.2.2.1<a.2.2.1 then b.2.2.1 else a.2.2.1),())
def wj:hF->Option dV:=λ(a,b,_)=>(ud (a,b,())).bind λ(e,aK,f,_)=>(cond (!f) ((uc ()).bind λ(g,_)=>some (g,())) ((wo (e,aK,())).bind λ(h,i,j,_)=>(qo (h,i,())).bind λ(c,_)=>(qn (c,j,())).bind λ(d,_)=>some (d,())))
def zK:hF->Option dV:=λ(a,b,_)=>(ua (b,())).bind λ(c,_)=>(wj (a,c,())).bind λ(aK,_)=>some (aK,())
def zE:dV->Option dV:=λ(b,_)=>(lI (b,())).bind λ(a,d,_)=>Option.bind (α:=hF) (cond d ((rX (a.2.1,())).bind λ(aK,_)=>some ((a.1,(aK,a.2.2)),(false,((false,([],())),((0:Int),()))),())) (some (a,(false,((false,([],())),((0:Int),()))),()))) λ(c,_,_)=>some (c,())
def wk:hF->Option cW:=λ(a,b,_)=>(ud (a,b,())).bind λ(c,aK,d,_)=>(cond (!d) (some (0,false,())) ((wo (c,aK,())).bind λ(e,f,_,_)=>(uh (e,f,())).bind λ(g,_)=>some (g,true,())))
def wm:dV->Option dH:=λ(a,_)=>(lI (a,())).bind λ(_,b,_)=>some (b,())
def Ae:cT->Option dH:=λ(a,c,b,_)=>(cond (decide (a>=c)==true) (some (decide (a<=b),())) (some (false,())))
def Ak:eG->Option dH:=λ(b,_)=>(loop (σ:=a8) (ρ:=hH) (λ(a,_)=>cond (decide (a>0)) ((ax b a).bind λf=>(ax b (aq (a-1))).bind λg=>(rV (f,g,())).bind λ(e,_)=>cond e (some (.inr (.inr (false,())))) (some (.inl (aq (a-1),())))) (some (.inr (.inl ())))) (aq (ar b-1),())).bind λc=>match c with
 |.inl _=>(some (true,()))
 |.inr d=>some d
def Ab:ky->Option dH:=λ(a,_)=>Option.bind (α:=Unit⊕dH) (cond ((ar a.2.2.1 !=aQ a.2.1)==false) ((ax a.2.2.1 0).bind λm=>cond ((m !=0)==false) ((Ak (a.2.2.1,())).bind λ(l,_)=>cond ((!l)==false) ((ax a.2.2.1 a.2.1).bind λn=>cond ((n !=ar a.2.2.2.1)==false) (cond (ar a.2.2.2.1 !=ar a.2.2.2.2.1) (some (.inr (false,()))) (some (.inl ()))) (some (.inr (false,())))) (some (.inr (false,())))) (some (.inr (false,())))) (some (.inr (false,())))) λb=>match b with
 |.inl _=>((loop (σ:=a8) (ρ:=hH) (λ(e,_)=>bif decide (e<a.2.1) then((ax a.2.2.1 e).bind λo=>(ax a.2.2.1 (aQ e)).bind λp=>((e9 o).bind λh=>(e9 p).bind λi=>(fy h i (a.2.2.2.1).length).map λ_=>(h,i)).bind λd=>(loop (σ:=kZ) (ρ:=(Unit⊕(a8⊕hH))) (λ(j,f,_)=>bif decide (f<ar (((a.2.2.2.1).take d.2).drop d.1)) then(Option.bind (α:=a8⊕(kZ⊕(Unit⊕(a8⊕hH)))) ((ax (((a.2.2.2.1).take d.2).drop d.1) f).bind λg=>Option.bind (α:=Unit⊕(a8⊕(kZ⊕(Unit⊕(a8⊕hH))))) (cond (decide (g<=j)==false) (cond (decide (g>=a.1)) (some (.inr (.inr (.inr (.inr (.inr (.inr (false,())))))))) (some (.inl ()))) (some (.inr (.inr (.inr (.inr (.inr (.inr (false,()))))))))) λb=>match b with
 |.inl _=>(some (.inl (g,())))
 |.inr c=>some c) λb=>match b with
 |.inl (k,_)=>(some (.inl (k,aQ f,())))
 |.inr c=>some c) else some (.inr (.inl ()))) ((-1:Int),0,())).bind λb=>match b with
 |.inl _=>(some (.inl (aQ e,())))
 |.inr c=>some c) else some (.inr (.inl ()))) (0,())).bind λb=>match b with
 |.inl _=>(some (true,()))
 |.inr c=>some c)
 |.inr c=>some c
def DR:a8->Option dH:=λ(a,_)=>(o7 (a,())).bind λ(b,_)=>some ((!b),())
def DT:(aM×Unit×Unit)->Option a8:=λ(b,_,_)=>(loop (σ:=a8) (ρ:=hI) (λ(a,_)=>cond (decide (a<ar b)) ((ax b a).bind λf=>(DR (f,())).bind λ(e,_)=>cond e (some (.inr (.inr (a,())))) (some (.inl (aQ a,())))) (some (.inr (.inl ())))) (0,())).bind λc=>match c with
 |.inl _=>(some ((-1:Int),()))
 |.inr d=>some d
def Ag:(aM×Unit×Unit)->Option dH:=λ(b,_,_)=>(DT (b,(),())).bind λ(a,_)=>some (decide (a>=0),())
def qq:ky->Option a8:=λ(a,_)=>Option.bind (α:=dH) ((Ae (a.1,0,200,())).bind λ(b,_)=>cond ((!b)==false) ((Ae (a.2.1,0,200,())).bind λ(c,_)=>cond ((!c)==false) (some (decide (ar a.2.2.2.1>10000),())) (some (true,()))) (some (true,()))) λ(f,_)=>(cond f (some (6,())) ((Ab (a,())).bind λ(d,_)=>cond (!d) (some (1,())) ((Ag (a.2.2.2.2.1,(),())).bind λ(e,_)=>cond e (some (4,())) (some (0,())))))
def A9:kY->Option (aM×Bool×Unit):=λ(h,a,_)=>(bif ar h !=a then some ([],false,()) else((dI a a).bind λi=>(dI a a).bind λj=>(loop (σ:=(Int×aM×hG×Unit)) (ρ:=(eG⊕(aM×Bool×Unit))) (λ(f,e,g,_)=>bif decide (f<ar h) then(Option.bind (α:=(aM×hG×Unit)⊕((Int×aM×hG×Unit)⊕(eG⊕(aM×Bool×Unit)))) ((ax h f).bind λd=>Option.bind (α:=(aM×hG×Unit)⊕((aM×hG×Unit)⊕((Int×aM×hG×Unit)⊕(eG⊕(aM×Bool×Unit))))) (Option.bind (α:=(Bool×aM×hG×Unit)) (cond (decide (d<0)==false) (cond (decide (d>=a)==false) (rd g d λs=>some (s,e,g,())) (some (true,e,g,()))) (some (true,e,g,()))) λ(o,k,p,_)=>cond o (some (.inr (.inr (.inr (.inr ([],false,())))))) (some (.inl (k,p,())))) λb=>match b with
 |.inl (l,q,_)=>(wr l d f λt=>wr q d true λu=>some (.inl (t,u,())))
 |.inr c=>some c) λb=>match b with
 |.inl (m,r,_)=>(some (.inl (aQ f,m,r,())))
 |.inr c=>some c) else some (.inr (.inl (e,())))) (0,List.replicate i (0:Int),List.replicate j false,())).bind λb=>match b with
 |.inl (n,_)=>(some (n,true,()))
 |.inr c=>some c))
def uq:ky->Option iO:=λ(b,_)=>(loop (σ:=oX) (ρ:=iO) (λ(a,e,_)=>cond (decide (a<b.2.1)) ((ax b.2.2.1 a).bind λj=>(loop (σ:=oX) (ρ:=iO) (λ(c,d,_)=>(ax b.2.2.1 (aQ a)).bind λk=>cond (decide (c<k)) ((ax b.2.2.2.1 c).bind λf=>(ax b.2.2.2.2.1 c).bind λg=>(bJ (d.length+([(f,(a,(g,())))]).length)).bind λ_=>some (.inl (aQ c,(d++[(f,(a,(g,())))]),()))) (some (.inr (d,())))) (j,e,())).bind λ(h,_)=>some (.inl (aQ a,h,()))) (some (.inr (e,())))) (0,[],())).bind λ(i,_)=>some (i,())
def DS:iO->Option iO:=λ(a,_)=>mC a.length (some ([],())) ((bJ (([]:jI).length+a.length)).bind λ_=>some (([]++a),()))
def Ad:((Int×(Int×a8))×(Int×(Int×a8))×Unit)->Option a8:=λ(a,b,_)=>(tY (a.2.1,b.2.1,())).bind λ(c,_)=>(tY (a.1,b.1,())).bind λ(aK,_)=>(zA ([c,aK],())).bind λ(d,_)=>some (d,())
def wI:(jI×Int×Int×Unit×Unit)->Option iO:=λ(h,e,g,_,_)=>(loop (σ:=oX) (ρ:=iO) (λ(d,f,_)=>bif decide (d<g) then(loop (σ:=oX) (ρ:=iO) (λ(a,b,_)=>Option.bind (α:=iO⊕(oX⊕iO)) (cond (decide (a>e)==true) (rd b a λn=>rd b (aq (a-1)) λo=>(Ad (n,o,())).bind λ(m,_)=>cond (decide (m<0)) (some (.inl (b,()))) (some (.inr (.inr (b,()))))) (some (.inr (.inr (b,()))))) λk=>match k with
 |.inl (c,_)=>(rd c (aq (a-1)) λp=>rd c a λq=>wr c a p λr=>wr r (aq (a-1)) q λs=>some (.inl (aq (a-1),s,())))
 |.inr l=>some l) (d,f,())).bind λ(i,_)=>some (.inl (aQ d,i,())) else some (.inr (f,()))) (aQ e,h,())).bind λ(j,_)=>some (j,())
def D0:(jI×Int×Unit×Unit)->Option iO:=λ(g,b,_,_)=>(loop (σ:=Dk) (ρ:=oX) (λ(c,a,d,_)=>cond (decide (a<=b)) ((wI (d,c,a,(),())).bind λ(l,_)=>some (.inl (a,aq (a+20),l,()))) (some (.inr (c,d,())))) (0,20,g,())).bind λ(e,j,_)=>(wI (j,e,b,(),())).bind λ(k,_)=>(loop (σ:=oX) (ρ:=iO) (λ(f,h,_)=>cond (decide (f<b)) none (some (.inr (h,())))) (20,k,())).bind λ(i,_)=>some (i,())
def DZ:(jI×Unit×Unit)->Option iO:=λ(a,_,_)=>(D0 (a,ar a,(),())).bind λ(b,_)=>some (b,())
def Ac:iO->Option iO:=λ(a,_)=>(DS (a,())).bind λ(c,_)=>(DZ (c,(),())).bind λ(b,_)=>some (b,())
def Aa:Dk->Option ky:=λ(s,e,o,_)=>(dI (aQ e) (aQ e)).bind λr=>(Ac (o,())).bind λ(i,_)=>(loop (σ:=(Int×b0×b0×jI×Unit)) (ρ:=(b0×b0×Unit)) (λ(f,k,a,l,_)=>bif decide (f<ar i) then rd l f λb=>(bJ ((a.2.2.2.1).length+([b.1]).length)).bind λ_=>(bJ ((a.2.2.2.2.1).length+([b.2.2.1]).length)).bind λ_=>(bk (((a.1,(a.2.1,(a.2.2.1,((a.2.2.2.1++[b.1]),a.2.2.2.2)))).1,((a.1,(a.2.1,(a.2.2.1,((a.2.2.2.1++[b.1]),a.2.2.2.2)))).2.1,((a.1,(a.2.1,(a.2.2.1,((a.2.2.2.1++[b.1]),a.2.2.2.2)))).2.2.1,((a.1,(a.2.1,(a.2.2.1,((a.2.2.2.1++[b.1]),a.2.2.2.2)))).2.2.2.1,(((a.1,(a.2.1,(a.2.2.1,((a.2.2.2.1++[b.1]),a.2.2.2.2)))).2.2.2.2.1++[b.2.2.1]),(a.1,(a.2.1,(a.2.2.1,((a.2.2.2.1++[b.1]),a.2.2.2.2)))).2.2.2.2.2))))).2.2.1).length (aQ b.2.1)).bind λn=>(bd ((a.1,(a.2.1,(a.2.2.1,((a.2.2.2.1++[b.1]),a.2.2.2.2)))).1,((a.1,(a.2.1,(a.2.2.1,((a.2.2.2.1++[b.1]),a.2.2.2.2)))).2.1,((a.1,(a.2.1,(a.2.2.1,((a.2.2.2.1++[b.1]),a.2.2.2.2)))).2.2.1,((a.1,(a.2.1,(a.2.2.1,((a.2.2.2.1++[b.1]),a.2.2.2.2)))).2.2.2.1,(((a.1,(a.2.1,(a.2.2.1,((a.2.2.2.1++[b.1]),a.2.2.2.2)))).2.2.2.2.1++[b.2.2.1]),(a.1,(a.2.1,(a.2.2.1,((a.2.2.2.1++[b.1]),a.2.2.2.2)))).2.2.2.2.2))))).2.2.1 n λm=>some m).bind λu=>
 (bk (((a.1,(a.2.1,(a.2.2.1,((a.2.2.2.1++[b.1]),a.2.2.2.2)))).1,((a.1,(a.2.1,(a.2.2.1,((a.2.2.2.1++[b.1]),a.2.2.2.2)))).2.1,((a.1,(a.2.1,(a.2.2.1,((a.2.2.2.1++[b.1]),a.2.2.2.2)))).2.2.1,((a.1,(a.2.1,(a.2.2.1,((a.2.2.2.1++[b.1]),a.2.2.2.2)))).2.2.2.1,(((a.1,(a.2.1,(a.2.2.1,((a.2.2.2.1++[b.1]),a.2.2.2.2)))).2.2.2.2.1++[b.2.2.1]),(a.1,(a.2.1,(a.2.2.1,((a.2.2.2.1++[b.1]),a.2.2.2.2)))).2.2.2.2.2))))).2.2.1).length (aQ b.2.1)).bind λg=>((((bd ((a.1,(a.2.1,(a.2.2.1,((a.2.2.2.1++[b.1]),a.2.2.2.2)))).1,((a.1,(a.2.1,(a.2.2.1,((a.2.2.2.1++[b.1]),a.2.2.2.2)))).2.1,((a.1,(a.2.1,(a.2.2.1,((a.2.2.2.1++[b.1]),a.2.2.2.2)))).2.2.1,((a.1,(a.2.1,(a.2.2.1,((a.2.2.2.1++[b.1]),a.2.2.2.2)))).2.2.2.1,(((a.1,(a.2.1,(a.2.2.1,((a.2.2.2.1++[b.1]),a.2.2.2.2)))).2.2.2.2.1++[b.2.2.1]),(a.1,(a.2.1,(a.2.2.1,((a.2.2.2.1++[b.1]),a.2.2.2.2)))).2.2.2.2.2))))).2.2.1 g λ_=>some ((((a.1,(a.2.1,(a.2.2.1,((a.2.2.2.1++[b.1]),a.2.2.2.2)))).1,((a.1,(a.2.1,(a.2.2.1,((a.2.2.2.1++[b.1]),a.2.2.2.2)))).2.1,((a.1,(a.2.1,(a.2.2.1,((a.2.2.2.1++[b.1]),a.2.2.2.2)))).2.2.1,((a.1,(a.2.1,(a.2.2.1,((a.2.2.2.1++[b.1]),a.2.2.2.2)))).2.2.2.1,(((a.1,(a.2.1,(a.2.2.1,((a.2.2.2.1++[b.1]),a.2.2.2.2)))).2.2.2.2.1++[b.2.2.1]),(a.1,(a.2.1,(a.2.2.1,((a.2.2.2.1++[b.1]),a.2.2.2.2)))).2.2.2.2.2))))).2.2.1).set g (aQ u))).map λx=>(x,((a.1,(a.2.1,(a.2.2.1,((a.2.2.2.1++[b.1]),a.2.2.2.2)))).1,((a.1,(a.2.1,(a.2.2.1,((a.2.2.2.1++[b.1]),a.2.2.2.2)))).2.1,((a.1,(a.2.1,(a.2.2.1,((a.2.2.2.1++[b.1]),a.2.2.2.2)))).2.2.1,((a.1,(a.2.1,(a.2.2.1,((a.2.2.2.1++[b.1]),a.2.2.2.2)))).2.2.2.1,(((a.1,(a.2.1,(a.2.2.1,((a.2.2.2.1++[b.1]),a.2.2.2.2)))).2.2.2.2.1++[b.2.2.1]),(a.1,(a.2.1,(a.2.2.1,((a.2.2.2.1++[b.1]),a.2.2.2.2)))).2.2.2.2.2))))).2.2.2)).map λy=>(((a.1,(a.2.1,(a.2.2.1,((a.2.2.2.1++[b.1]),a.2.2.2.2)))).1,((a.1,(a.2.1,(a.2.2.1,((a.2.2.2.1++[b.1]),a.2.2.2.2)))).2.1,((a.1,(a.2.1,(a.2.2.1,((a.2.2.2.1++[b.1]),a.2.2.2.2)))).2.2.1,((a.1,(a.2.1,(a.2.2.1,((a.2.2.2.1++[b.1]),a.2.2.2.2)))).2.2.2.1,(((a.1,(a.2.1,(a.2.2.1,((a.2.2.2.1++[b.1]),a.2.2.2.2)))).2.2.2.2.1++[b.2.2.1]),(a.1,(a.2.1,(a.2.2.1,((a.2.2.2.1++[b.1]),a.2.2.2.2)))).2.2.2.2.2))))).2.1,y)).map λz=>(((a.1,(a.2.1,(a.2.2.1,((a.2.2.2.1++[b.1]),a.2.2.2.2)))).1,((a.1,(a.2.1,(a.2.2.1,((a.2.2.2.1++[b.1]),a.2.2.2.2)))).2.1,((a.1,(a.2.1,(a.2.2.1,((a.2.2.2.1++[b.1]),a.2.2.2.2)))).2.2.1,((a.1,(a.2.1,(a.2.2.1,((a.2.2.2.1++[b.1]),a.2.2.2.2)))).2.2.2.1,(((a.1,(a.2.1,(a.2.2.1,((a.2.2.2.1++[b.1]),a.2.2.2.2)))).2.2.2.2.1++[b.2.2.1]),(a.1,(a.2.1,(a.2.2.1,((a.2.2.2.1++[b.1]),a.2.2.2.2)))).2.2.2.2.2))))).1,z)).bind λA=>
 some (.inl (aQ f,k,A,l,())) else some (.inr (k,a,()))) (0,((0:Int),((0:Int),([],([],([],()))))),(s,(e,(List.replicate r (0:Int),(([]:aM),(([]:aM),()))))),i,())).bind λ(t,p,_)=>(loop (σ:=(Int×b0×b0×Unit)) (ρ:=(b0×b0×Unit)) (λ(d,j,c,_)=>cond (decide (d<e)) (rd c.2.2.1 (aQ d) λv=>rd c.2.2.1 d λw=>(bk (c.2.2.1).length (aQ d)).bind λh=>((((bd c.2.2.1 h λ_=>some ((c.2.2.1).set h (aq (v+w)))).map λB=>(B,c.2.2.2)).map λC=>(c.2.1,C)).map λD=>(c.1,D)).bind λE=>some (.inl (aQ d,j,E,()))) (some (.inr (j,c,())))) (0,t,p,())).bind λ(_,q,_)=>some (q,())
def z9:ky->Option (b0×Int×Unit):=λ(a,_)=>(qq (a,())).bind λ(aK,_)=>(cond (aK !=0) (some (((0:Int),((0:Int),(([]:aM),(([]:aM),(([]:aM),()))))),aK,())) ((uq (a,())).bind λ(g,_)=>(loop (σ:=(Int×b0×jI×jI×Unit)) (ρ:=(b0×jI×Unit)) (λ(d,e,b,f,_)=>cond (decide (d<ar g)) (Option.bind (α:=(b0×jI×jI×Unit)) (rd f d λc=>cond (decide (c.1>=c.2.1)) ((bJ (b.length+([c]).length)).bind λ_=>some (e,(b++[c]),f,())) (some (e,b,f,()))) λ(k,h,l,_)=>some (.inl (aQ d,k,h,l,()))) (some (.inr (e,b,())))) (0,((0:Int),((0:Int),([],([],([],()))))),[],g,())).bind λ(_,i,_)=>(Aa (a.1,a.2.1,i,())).bind λ(j,_)=>some (j,0,())))
def z8:ky->Option iO:=λ(a,_)=>(qq (a,())).bind λ(aK,_)=>(cond (aK !=0) (some ([],())) ((uq (a,())).bind λ(b,_)=>some (b,())))
def wx:ky->Option ((List aM×Unit)×Int×Unit):=λ(a,_)=>(qq (a,())).bind λ(c,_)=>(cond (c !=0) (some ((([]:List aM),()),c,())) (cond (a.1 !=a.2.1) (some ((([]:List aM),()),5,())) ((wy (a.2.1,())).bind λ(j,_)=>(z8 (a,())).bind λ(aK,_)=>(loop (σ:=(Int×(List aM×Unit)×List hG×jI×Unit)) (ρ:=((List aM×Unit)×List hG×Unit)) (λ(b,d,e,f,_)=>cond (decide (b<ar aK)) (rd f b λg=>(wB (e,g.1,g.2.1,())).bind λ(h,_)=>some (.inl (aQ b,d,h,f,()))) (some (.inr (d,e,())))) (0,([],()),j,aK,())).bind λ(_,k,_)=>(wA (k,())).bind λ(i,_)=>some (i,0,()))))
def ph:(b0×aM×Unit)->Option (Option lB×Int×Unit):=λ(a,q,_)=>(qq (a,())).bind λ(r,_)=>(bif r !=0 then some (none,r,()) else bif a.1 !=a.2.1 then some (none,5,()) else(A9 (q,a.2.1,())).bind λ(s,E,_)=>bif !E then some (none,90,()) else(z9 (a,())).bind λ(F,_,_)=>(wx (F,())).bind λ(G,_,_)=>(wz (G,q,())).bind λ(t,_,_)=>(dI a.2.1 a.2.1).bind λp=>(loop (σ:=(Int×b0×lB×Unit)) (ρ:=(b0×lB×Unit)) (λ(j,k,c,_)=>cond (decide (j<ar ((a.2.1,(t,(List.replicate p (none:Option (List (Int×bw)×Nat)),()))).2.2.1))) ((bk (c.2.2.1).length j).bind λn=>((((bd c.2.2.1 n λ_=>some ((c.2.2.1).set n (some ([],0)))).map λL=>(L,c.2.2.2)).map λM=>(c.2.1,M)).map λN=>(c.1,N)).bind λO=>some (.inl (aQ j,k,O,()))) (some (.inr (k,c,())))) (0,a,(a.2.1,(t,(List.replicate p (none:Option (List (Int×bw)×Nat)),()))),())).bind λ(l,z,_)=>
 (loop (σ:=(Int×b0×lB×Unit)) (ρ:=(lB×Unit)) (λ(e,m,o,_)=>bif decide (e<l.2.1) then(ax m.2.2.1 e).bind λI=>(loop (σ:=(Int×b0×lB×Unit)) (ρ:=(b0×lB×Unit)) (λ(f,d,b,_)=>(ax d.2.2.1 (aQ e)).bind λJ=>cond (decide (f<J)) (Option.bind (α:=(b0×lB×Unit)) ((ax d.2.2.2.1 f).bind λu=>cond (decide (u>=e)) ((ax s u).bind λg=>(ax s e).bind λh=>(bk (b.2.2.1).length (if h<g then h else g)).bind λi=>(ax d.2.2.2.2.1 f).bind λK=>(mi (K,())).bind λ(H,_)=>(bd b.2.2.1 i λx=>some x).bind λC=>(px C (if h>g then h else g) H).bind λD=>((((bd b.2.2.1 i λ_=>some ((b.2.2.1).set i D)).map λP=>(P,b.2.2.2)).map λQ=>(b.2.1,Q)).map λR=>(b.1,R)).bind λS=>some (d,S,())) (some (d,b,()))) λ(v,A,_)=>some (.inl (aQ f,v,A,()))) (some (.inr (d,b,())))) (I,m,o,())).bind λ(w,B,_)=>
 some (.inl (aQ e,w,B,())) else some (.inr (o,()))) (0,l,z,())).bind λ(y,_)=>some (some y,0,()))
def wg:(Option lB×Unit)->Option (g0×Unit):=λ(d,_)=>d.bind λx=>(A7 (x.2.1,())).bind λ(e,_,_)=>d.bind λk=>(dI k.1 k.1).bind λt=>d.bind λl=>(dI l.1 l.1).bind λu=>d.bind λm=>(dI m.1 m.1).bind λs=>(loop (σ:=(Int×g0×Unit)) (ρ:=(g0×Unit)) (λ(b,h,_)=>bif decide (b<ar e) then(ax e b).bind λj=>(loop (σ:=(Int×g0×Unit)) (ρ:=(g0×Unit)) (λ(f,a,_)=>bif decide (f<ar j) then Option.bind (α:=(g0×Unit)) ((ax j f).bind λg=>bif decide (g>b) then(bk (a.2.2.2.1).length g).bind λi=>(bd a.2.2.2.1 i λq=>some q).bind λv=>(bJ (v.length+([b]).length)).bind λ_=>(bk (a.2.2.2.1).length g).bind λc=>bif Nat.beq i c&&true then(bd a.2.2.2.1 c λr=>some r).bind λw=>(((((bd a.2.2.2.1 c λ_=>some ((a.2.2.2.1).set c (w++[b]))).map λy=>(y,a.2.2.2.2)).map λz=>(a.2.2.1,z)).map λA=>(a.2.1,A)).map λB=>(a.1,B)).bind λC=>
 some (C,()) else none else some (a,())) λ(n,_)=>some (.inl (aQ f,n,())) else some (.inr (a,()))) (0,h,())).bind λ(o,_)=>some (.inl (aQ b,o,())) else some (.inr (h,()))) (0,(e,(List.replicate t [],(List.replicate u (none:Option (List (Int×bw)×Nat)),(List.replicate s [],())))),())).bind λ(p,_)=>some (p,())
def uE:(Option lB×Int×Int×Unit)->Option dV:=λ(c,a,b,_)=>c.bind λd=>(ax d.2.2.1 (if b<a then b else a)).bind λe=>some (((iC (α:=bw) e (if b>a then b else a)).getD (false,((false,([],())),((0:Int),())))),())
def wi:(Option g0×Option lB×Int×Int×Unit)->Option dV:=λ(b,k,c,d,_)=>(uE (k,c,d,())).bind λ(n,_)=>b.bind λu=>(ax u.2.2.2.1 d).bind λj=>(loop (σ:=(Int×bw×ew×Unit)) (ρ:=(bw×ew×Unit)) (λ(e,f,a,_)=>cond (decide (e<ar j)) (Option.bind (α:=(bw×ew×Unit)) ((ax j e).bind λh=>b.bind λr=>(ax r.2.2.1 h).bind λi=>cond ((iC (α:=bw) i c).isSome) (b.bind λs=>(ax s.2.2.1 h).bind λt=>(tZ (((iC (α:=bw) i c).getD (false,((false,([],())),((0:Int),())))),((iC (α:=bw) t d).getD (false,((false,([],())),((0:Int),())))),())).bind λ(l,_)=>(ua (l,())).bind λ(g,_)=>(bJ (a.length+([g]).length)).bind λ_=>some (f,(a++[g]),())) (some (f,a,()))) λ(o,p,_)=>some (.inl (aQ e,o,p,()))) (some (.inr (f,a,())))) (0,(false,((false,([],())),((0:Int),()))),[n],())).bind λ(_,q,_)=>(ub (q,())).bind λ(m,_)=>
 some (m,())
def zv:(g0×Option lB×Int×Unit)->Option (g0×Int×Unit):=λ(c,u,b,_)=>(wi (some c,u,b,b,())).bind λ(aK,_)=>(ob (aK,())).bind λ(M,_)=>(bif decide (M<=0) then some (c,231,()) else(wv (aK,0,())).bind λ(h,_)=>(ws (h,())).bind λ(N,_)=>bif N==0 then some (c,231,()) else(mi (h,())).bind λ(O,_)=>(px (some ([],0)) b O).bind λE=>(bk (c.2.1).length b).bind λp=>(((bd c.2.1 p λ_=>some ((c.2.1).set p [h])).map λR=>(R,c.2.2)).map λS=>(c.1,S)).bind λe=>(bk (e.2.2.1).length b).bind λq=>((((bd e.2.2.1 q λ_=>some ((e.2.2.1).set q E)).map λT=>(T,e.2.2.2)).map λU=>(e.2.1,U)).map λV=>(e.1,V)).bind λo=>(o7 (h,())).bind λ(H,_)=>bif !H then some (o,233,()) else((ax o.1 b).bind λl=>((e9 1).bind λs=>(some l.length).bind λt=>(fy s t l.length).map λ_=>(s,t)).bind λj=>
 (loop (σ:=(Int×g0×Unit)) (ρ:=((g0×Unit)⊕(g0×Int×Unit))) (λ(n,a,_)=>bif decide (n<ar ((l.take j.2).drop j.1)) then(ax ((l.take j.2).drop j.1) n).bind λm=>(wi (some a,u,m,b,())).bind λ(I,_)=>(mi (h,())).bind λ(J,_)=>(wu (I,J,0,())).bind λ(k,_)=>(o7 (k,())).bind λ(K,_)=>bif !K then some (.inr (.inr (a,233,()))) else(bk (a.2.2.1).length b).bind λd=>(bk (a.2.1).length b).bind λr=>(bd a.2.1 r λx=>some x).bind λP=>(bJ (P.length+([k]).length)).bind λ_=>(mi (k,())).bind λ(L,_)=>(bk (a.2.1).length b).bind λi=>bif Nat.beq r i&&true then(bd a.2.1 i λy=>some y).bind λQ=>(((bd a.2.1 i λ_=>some ((a.2.1).set i (Q++[k]))).map λW=>(W,a.2.2)).map λX=>(a.1,X)).bind λf=>(bd f.2.2.1 d λz=>some z).bind λv=>(px v m ((iC (α:=bw) v m).getD (false,((false,([],())),((0:Int),()))))).bind λC=>
 ((((bd f.2.2.1 d λ_=>some ((f.2.2.1).set d C)).map λY=>(Y,f.2.2.2)).map λZ=>(f.2.1,Z)).map λad=>(f.1,ad)).bind λg=>cond (Nat.beq d d&&true) ((bd g.2.2.1 d λA=>some A).bind λB=>(px B m L).bind λD=>((((bd g.2.2.1 d λ_=>some ((g.2.2.1).set d D)).map λam=>(am,g.2.2.2)).map λan=>(g.2.1,an)).map λap=>(g.1,ap)).bind λav=>some (.inl (aQ n,av,()))) none else none else some (.inr (.inl (a,())))) (0,o,())).bind λF=>match F with
 |.inl (w,_)=>(some (w,0,()))
 |.inr G=>some G))
def Af:eG->Option eG:=λ(a,_)=>mC a.length (some ([],())) ((bJ (([]:aM).length+a.length)).bind λ_=>some (([]++a),()))
def wh:(Option g0×aM×Unit)->Option (dq×Unit):=λ(e,h,_)=>(Af (h,())).bind λ(i,_)=>e.bind λk=>(loop (σ:=(Int×dq×dq×Unit)) (ρ:=(dq×dq×Unit)) (λ(d,f,a,_)=>bif decide (d<ar k.1) then e.bind λl=>(ax l.1 d).bind λb=>(bJ ((a.2.2.1).length+b.length)).bind λ_=>e.bind λj=>(ax j.2.1 d).bind λc=>(bJ (((a.1,(a.2.1,((a.2.2.1++b),a.2.2.2))).2.2.2.1).length+c.length)).bind λ_=>(bJ ((((a.1,(a.2.1,((a.2.2.1++b),a.2.2.2))).1,((a.1,(a.2.1,((a.2.2.1++b),a.2.2.2))).2.1,((a.1,(a.2.1,((a.2.2.1++b),a.2.2.2))).2.2.1,(((a.1,(a.2.1,((a.2.2.1++b),a.2.2.2))).2.2.2.1++c),(a.1,(a.2.1,((a.2.2.1++b),a.2.2.2))).2.2.2.2)))).2.1).length+([ar (((a.1,(a.2.1,((a.2.2.1++b),a.2.2.2))).1,((a.1,(a.2.1,((a.2.2.1++b),a.2.2.2))).2.1,((a.1,(a.2.1,((a.2.2.1++b),a.2.2.2))).2.2.1,(((a.1,(a.2.1,((a.2.2.1++b),a.2.2.2))).2.2.2.1++c),(a.1,(a.2.1,((a.2.2.1++b),a.2.2.2))).2.2.2.2)))).2.2.1)]).length)).bind λ_=>
 some (.inl (aQ d,f,(((a.1,(a.2.1,((a.2.2.1++b),a.2.2.2))).1,((a.1,(a.2.1,((a.2.2.1++b),a.2.2.2))).2.1,((a.1,(a.2.1,((a.2.2.1++b),a.2.2.2))).2.2.1,(((a.1,(a.2.1,((a.2.2.1++b),a.2.2.2))).2.2.2.1++c),(a.1,(a.2.1,((a.2.2.1++b),a.2.2.2))).2.2.2.2)))).1,((((a.1,(a.2.1,((a.2.2.1++b),a.2.2.2))).1,((a.1,(a.2.1,((a.2.2.1++b),a.2.2.2))).2.1,((a.1,(a.2.1,((a.2.2.1++b),a.2.2.2))).2.2.1,(((a.1,(a.2.1,((a.2.2.1++b),a.2.2.2))).2.2.2.1++c),(a.1,(a.2.1,((a.2.2.1++b),a.2.2.2))).2.2.2.2)))).2.1++[ar (((a.1,(a.2.1,((a.2.2.1++b),a.2.2.2))).1,((a.1,(a.2.1,((a.2.2.1++b),a.2.2.2))).2.1,((a.1,(a.2.1,((a.2.2.1++b),a.2.2.2))).2.2.1,(((a.1,(a.2.1,((a.2.2.1++b),a.2.2.2))).2.2.2.1++c),(a.1,(a.2.1,((a.2.2.1++b),a.2.2.2))).2.2.2.2)))).2.2.1)]),((a.1,(a.2.1,((a.2.2.1++b),a.2.2.2))).1,((a.1,(a.2.1,((a.2.2.1++b),a.2.2.2))).2.1,((a.1,(a.2.1,((a.2.2.1++b),a.2.2.2))).2.2.1,(((a.1,(a.2.1,((a.2.2.1++b),a.2.2.2))).2.2.2.1++c),(a.1,(a.2.1,((a.2.2.1++b),a.2.2.2))).2.2.2.2)))).2.2)),())) else
 some (.inr (f,a,()))) (0,([],([],([],([],())))),(i,([0],(([]:aM),(([]:aM),())))),())).bind λ(_,g,_)=>some (g,())
def o4:(b0×aM×Unit)->Option md:=λ(g,e,_)=>(ph (g,e,())).bind λ(b,aK,_)=>(bif aK !=0 then some ((([]:aM),(([]:aM),(([]:aM),(([]:aM),())))),0,aK,()) else((wg (b,())).bind λ(m,_)=>b.bind λo=>(loop (σ:=(Int×dq×g0×Unit)) (ρ:=((dq×g0×Unit)⊕md)) (λ(c,f,d,_)=>cond (decide (c<o.1)) ((zv (d,b,c,())).bind λ(i,a,_)=>cond (a==0) (some (.inl (aQ c,f,i,()))) (cond (a==231) (some (.inr (.inr ((([]:aM),(([]:aM),(([]:aM),(([]:aM),())))),c,a,())))) (some (.inr (.inr ((([]:aM),(([]:aM),(([]:aM),(([]:aM),())))),0,a,())))))) (some (.inr (.inl (f,d,()))))) (0,([],([],([],([],())))),m,())).bind λj=>match j with
 |.inl (_,h,_)=>((wh (some h,e,())).bind λ(l,_)=>b.bind λn=>some (l,n.1,0,()))
 |.inr k=>some k))
def As:h2->Option dH:=λ(b,c,_)=>(bif ar b !=ar c then some (false,()) else((loop (σ:=a8) (ρ:=hH) (λ(a,_)=>cond (decide (a<ar b)) ((ax b a).bind λf=>(ax c a).bind λg=>cond (f !=g) (some (.inr (.inr (false,())))) (some (.inl (aQ a,())))) (some (.inr (.inl ())))) (0,())).bind λd=>match d with
 |.inl _=>(some (true,()))
 |.inr e=>some e))
def Au:Unit->Option dH:=λ_=>(r7 (4,0,())).bind λ(b,_)=>(r7 (2,0,())).bind λ(a,_)=>(r7 (5,0,())).bind λ(c,_)=>(o4 ((2,(2,([0,2,3],([0,1,1],([b,a,c],()))))),[0,1],())).bind λ(aK,d,e,_)=>(cond ((e==0)==true) (cond ((d==2)==true) ((r6 (aK.2.1,[0,2,3],())).bind λ(f,_)=>cond (f==true) ((As (aK.2.2.2.1,[a,4607182418800017408,a],())).bind λ(g,_)=>some (g,())) (some (false,()))) (some (false,()))) (some (false,())))
def mj:kZ->Option a8:=λ(a,b,_)=>(fS (aJ a) (aJ b)).bind λc=>some (aq c,())
def us:kY->Option a8:=λ(b,a,_)=>Option.bind (α:=a8) (cond (decide (ar b>0)) ((mj (a,ar b,())).bind λ(e,_)=>(ax b e).bind λf=>some (rm IntKind.u64 (aJ (aJ (aQ a)*11400714819323198485)) f,())) (some (aJ (aJ (aQ a)*11400714819323198485),()))) λ(c,_)=>(da IntKind.u64 c 31).bind λd=>(da IntKind.u64 (aJ (rm IntKind.u64 c d*13787848793156543929)) 29).bind λg=>some (rm IntKind.u64 (aJ (rm IntKind.u64 c d*13787848793156543929)) g,())
def D1:a8->Option a8:=λ(b,_)=>(fS b 19).bind λc=>(r7 (aq (aq c-9),0,())).bind λ(a,_)=>some (a,())
def Aq:kZ->Option a8:=λ(a,e,_)=>(mj (e,4,())).bind λ(b,_)=>(cond (b==1) ((da IntKind.u64 a 52).bind λf=>(gn IntKind.u64 (aJ (1019+dc IntKind.u64 f 7)) 52).bind λg=>some (eB IntKind.u64 (dc IntKind.u64 a 9227875636482146303) g,())) (cond (b==2) ((da IntKind.u64 a 8).bind λh=>(fS h 81).bind λi=>(gn IntKind.u64 (aJ (983+i)) 52).bind λj=>some (eB IntKind.u64 (dc IntKind.u64 a 9225623836668461056) j,())) (cond (b==3) ((qu (a,())).bind λ(d,_)=>cond (!d) (some (0,())) (some (a,()))) ((D1 (a,())).bind λ(c,_)=>some (c,())))))
def Ap:(aM×Int×Int×Int×Unit)->Option ky:=λ(n,e,g,q,_)=>(loop (σ:=(Int×b0×b0×Unit)) (ρ:=(b0×b0×Unit)) (λ(d,k,h,_)=>bif decide (d<g) then(loop (σ:=(Int×b0×b0×Unit)) (ρ:=(b0×b0×Unit)) (λ(b,f,a,_)=>bif decide (b<e) then Option.bind (α:=(b0×b0×Unit)) ((us (n,aq (aq (100+aq (d*e))+b),())).bind λ(i,_)=>(da IntKind.u64 i 40).bind λr=>(fS r 3).bind λs=>bif decide (s>0) then(bJ ((a.2.2.2.1).length+([b]).length)).bind λ_=>(Aq (i,q,())).bind λ(j,_)=>(bJ (((a.1,(a.2.1,(a.2.2.1,((a.2.2.2.1++[b]),a.2.2.2.2)))).2.2.2.2.1).length+([j]).length)).bind λ_=>some (f,((a.1,(a.2.1,(a.2.2.1,((a.2.2.2.1++[b]),a.2.2.2.2)))).1,((a.1,(a.2.1,(a.2.2.1,((a.2.2.2.1++[b]),a.2.2.2.2)))).2.1,((a.1,(a.2.1,(a.2.2.1,((a.2.2.2.1++[b]),a.2.2.2.2)))).2.2.1,((a.1,(a.2.1,(a.2.2.1,((a.2.2.2.1++[b]),a.2.2.2.2)))).2.2.2.1,(((a.1,(a.2.1,(a.2.2.1,((a.2.2.2.1++[b]),a.2.2.2.2)))).2.2.2.2.1++[j]),(a.1,(a.2.1,(a.2.2.1,((a.2.2.2.1++[b]),a.2.2.2.2)))).2.2.2.2.2))))),()) else
 some (f,a,())) λ(o,l,_)=>some (.inl (aQ b,o,l,())) else some (.inr (f,a,()))) (0,k,h,())).bind λ(p,c,_)=>(bJ ((c.2.2.1).length+([ar c.2.2.2.1]).length)).bind λ_=>some (.inl (aQ d,p,(c.1,(c.2.1,((c.2.2.1++[ar c.2.2.2.1]),c.2.2.2))),())) else some (.inr (k,h,()))) (0,((0:Int),((0:Int),([],([],([],()))))),(e,(g,([0],(([]:aM),(([]:aM),()))))),())).bind λ(_,m,_)=>some (m,())
def AO:eG->Option dH:=λ(b,_)=>(loop (σ:=a8) (ρ:=hH) (λ(a,_)=>cond (decide (a<ar b)) ((ax b a).bind λe=>(qu (e,())).bind λ(aK,_)=>cond (!aK) (some (.inr (.inr (false,())))) (some (.inl (aQ a,())))) (some (.inr (.inl ())))) (0,())).bind λc=>match c with
 |.inl _=>(some (true,()))
 |.inr d=>some d
def pf:ky->Option a8:=λ(a,_)=>Option.bind (α:=Unit⊕a8) (cond (decide (a.1<0)==false) (cond (decide (a.1>200)==false) (cond (decide (a.2.1<0)==false) (cond (decide (a.2.1>200)==false) (cond (decide (ar a.2.2.2.1>10000)) (some (.inr (6,()))) (some (.inl ()))) (some (.inr (6,())))) (some (.inr (6,())))) (some (.inr (6,())))) (some (.inr (6,())))) λb=>match b with
 |.inl _=>(Option.bind (α:=Unit⊕a8) (cond ((ar a.2.2.2.2.1 !=ar a.2.2.2.1)==false) (cond ((ar a.2.2.1 !=aQ a.2.1)==false) ((ax a.2.2.1 0).bind λn=>cond ((n !=0)==false) ((ax a.2.2.1 a.2.1).bind λo=>cond (o !=ar a.2.2.2.1) (some (.inr (1,()))) (some (.inl ()))) (some (.inr (1,())))) (some (.inr (1,())))) (some (.inr (1,())))) λb=>match b with
 |.inl _=>((loop (σ:=a8) (ρ:=hI) (λ(f,_)=>cond (decide (f<a.2.1)) ((ax a.2.2.1 f).bind λp=>(ax a.2.2.1 (aQ f)).bind λq=>cond (decide (p>q)) (some (.inr (.inr (1,())))) (some (.inl (aQ f,())))) (some (.inr (.inl ())))) (0,())).bind λb=>match b with
 |.inl _=>((loop (σ:=a8) (ρ:=hI) (λ(e,_)=>bif decide (e<a.2.1) then((ax a.2.2.1 e).bind λr=>(loop (σ:=a8) (ρ:=(Unit⊕(a8⊕hI))) (λ(d,_)=>(ax a.2.2.1 (aQ e)).bind λh=>bif decide (d<h) then(Option.bind (α:=Unit⊕(a8⊕(Unit⊕(a8⊕hI)))) ((ax a.2.2.2.1 d).bind λi=>cond (decide (i<0)==false) ((ax a.2.2.2.1 d).bind λj=>cond (decide (j>=a.1)==false) ((ax a.2.2.1 e).bind λk=>cond (decide (d>k)==true) ((ax a.2.2.2.1 d).bind λl=>(ax a.2.2.2.1 (aq (d-1))).bind λm=>cond (decide (l<=m)) (some (.inr (.inr (.inr (.inr (.inr (1,()))))))) (some (.inl ()))) (some (.inl ()))) (some (.inr (.inr (.inr (.inr (.inr (1,())))))))) (some (.inr (.inr (.inr (.inr (.inr (1,())))))))) λb=>match b with
 |.inl _=>(some (.inl (aQ d,())))
 |.inr c=>some c) else some (.inr (.inl ()))) (r,())).bind λb=>match b with
 |.inl _=>(some (.inl (aQ e,())))
 |.inr c=>some c) else some (.inr (.inl ()))) (0,())).bind λb=>match b with
 |.inl _=>((AO (a.2.2.2.2.1,())).bind λ(g,_)=>cond (!g) (some (4,())) (some (0,())))
 |.inr c=>some c)
 |.inr c=>some c)
 |.inr c=>some c)
 |.inr c=>some c
def AP:(b0×Int×Int×Unit)->Option a8:=λ(a,f,b,_)=>Option.bind (α:=Unit⊕a8) ((pf (a,())).bind λ(aK,_)=>cond ((aK !=0)==false) (cond (decide (b<0)==false) (cond (decide (b>=a.2.1)) (some (.inr (0,()))) (some (.inl ()))) (some (.inr (0,())))) (some (.inr (0,())))) λd=>match d with
 |.inl _=>((ax a.2.2.1 b).bind λg=>(loop (σ:=a8) (ρ:=hI) (λ(c,_)=>(ax a.2.2.1 (aQ b)).bind λh=>cond (decide (c<h)) ((ax a.2.2.2.1 c).bind λi=>cond (i==f) ((ax a.2.2.2.2.1 c).bind λj=>some (.inr (.inr (j,())))) (some (.inl (aQ c,())))) (some (.inr (.inl ())))) (g,())).bind λd=>match d with
 |.inl _=>(some (0,()))
 |.inr e=>some e)
 |.inr e=>some e
def Ar:kY->Option eG:=λ(m,j,_)=>(loop (σ:=kY) (ρ:=eG) (λ(a,c,_)=>cond (decide (c<j)) ((us (m,aq (700+c),())).bind λ(l,_)=>(da IntKind.u64 l 1).bind λn=>(mj (aq n,aQ c,())).bind λ(i,_)=>((some (0)).bind λg=>(e9 i).bind λh=>(fy g h a.length).map λ_=>(g,h)).bind λb=>(bJ (([]:aM).length+((a.take b.2).drop b.1).length)).bind λ_=>(bJ (([]++((a.take b.2).drop b.1)).length+([c]).length)).bind λ_=>((e9 i).bind λe=>(some a.length).bind λf=>(fy e f a.length).map λ_=>(e,f)).bind λd=>(bJ ((([]++((a.take b.2).drop b.1))++[c]).length+((a.take d.2).drop d.1).length)).bind λ_=>some (.inl (((([]++((a.take b.2).drop b.1))++[c])++((a.take d.2).drop d.1)),aQ c,()))) (some (.inr (a,())))) ([],0,())).bind λ(k,_)=>some (k,())
def w9:kY->Option dH:=λ(b,c,_)=>(bif ar b !=c then some (false,()) else((dI c c).bind λg=>(loop (σ:=(Int×hG×Unit)) (ρ:=hH) (λ(a,f,_)=>bif decide (a<c) then(Option.bind (α:=(hG×Unit)⊕((Int×hG×Unit)⊕hH)) (Option.bind (α:=(hG×Unit)⊕((hG×Unit)⊕((Int×hG×Unit)⊕hH))) ((ax b a).bind λl=>cond (decide (l<0)==false) ((ax b a).bind λm=>cond (decide (m>=c)==false) ((ax b a).bind λn=>rd f n λj=>cond j (some (.inr (.inr (.inr (.inr (false,())))))) (some (.inl (f,())))) (some (.inr (.inr (.inr (.inr (false,()))))))) (some (.inr (.inr (.inr (.inr (false,()))))))) λd=>match d with
 |.inl (h,_)=>((ax b a).bind λk=>wr h k true λo=>some (.inl (o,())))
 |.inr e=>some e) λd=>match d with
 |.inl (i,_)=>(some (.inl (aQ a,i,())))
 |.inr e=>some e) else some (.inr (.inl ()))) (0,List.replicate g false,())).bind λd=>match d with
 |.inl _=>(some (true,()))
 |.inr e=>some e))
def uD:(b0×aM×Unit)->Option a8:=λ(a,c,_)=>(pf (a,())).bind λ(b,_)=>(cond (b !=0) (some (b,())) (cond (a.1 !=a.2.1) (some (5,())) ((w9 (c,a.1,())).bind λ(aK,_)=>cond (!aK) (some (90,())) (some (0,())))))
def wV:ky->Option iO:=λ(b,_)=>(pf (b,())).bind λ(j,_)=>(cond (j !=0) (some ([],())) ((loop (σ:=oX) (ρ:=iO) (λ(a,e,_)=>cond (decide (a<b.2.1)) ((ax b.2.2.1 a).bind λk=>(loop (σ:=oX) (ρ:=iO) (λ(c,d,_)=>(ax b.2.2.1 (aQ a)).bind λl=>cond (decide (c<l)) ((ax b.2.2.2.1 c).bind λf=>(ax b.2.2.2.2.1 c).bind λg=>(bJ (d.length+([(f,(a,(g,())))]).length)).bind λ_=>some (.inl (aQ c,(d++[(f,(a,(g,())))]),()))) (some (.inr (d,())))) (k,e,())).bind λ(h,_)=>some (.inl (aQ a,h,()))) (some (.inr (e,())))) (0,[],())).bind λ(i,_)=>some (i,())))
def AR:Dk->Option ky:=λ(d,g,h,_)=>(dI (aq (d*g)) (aq (d*g))).bind λy=>(loop (σ:=(Int×b0×b0×aM×Unit)) (ρ:=(b0×b0×aM×Unit)) (λ(e,o,m,k,_)=>cond (decide (e<ar h)) ((ax h e).bind λD=>(ax h e).bind λC=>wr k (aq (aq (D.2.1*d)+C.1)) (aQ e) λE=>some (.inl (aQ e,o,m,E,()))) (some (.inr (o,m,k,())))) (0,((0:Int),((0:Int),([],([],([],()))))),(d,(g,([0],(([]:aM),(([]:aM),()))))),List.replicate y (0:Int),())).bind λ(z,v,r,_)=>(loop (σ:=(Int×b0×b0×aM×Unit)) (ρ:=(b0×b0×Unit)) (λ(i,n,l,s,_)=>bif decide (i<g) then(loop (σ:=(Int×b0×b0×aM×Unit)) (ρ:=(b0×b0×aM×Unit)) (λ(b,j,a,f,_)=>bif decide (b<d) then Option.bind (α:=(b0×b0×aM×Unit)) (rd f (aq (aq (i*d)+b)) λp=>bif decide (p>0) then(bJ ((a.2.2.2.1).length+([b]).length)).bind λ_=>(ax h (aq (p-1))).bind λq=>
 (bJ (((a.1,(a.2.1,(a.2.2.1,((a.2.2.2.1++[b]),a.2.2.2.2)))).2.2.2.2.1).length+([q.2.2.1]).length)).bind λ_=>some (j,((a.1,(a.2.1,(a.2.2.1,((a.2.2.2.1++[b]),a.2.2.2.2)))).1,((a.1,(a.2.1,(a.2.2.1,((a.2.2.2.1++[b]),a.2.2.2.2)))).2.1,((a.1,(a.2.1,(a.2.2.1,((a.2.2.2.1++[b]),a.2.2.2.2)))).2.2.1,((a.1,(a.2.1,(a.2.2.1,((a.2.2.2.1++[b]),a.2.2.2.2)))).2.2.2.1,(((a.1,(a.2.1,(a.2.2.1,((a.2.2.2.1++[b]),a.2.2.2.2)))).2.2.2.2.1++[q.2.2.1]),(a.1,(a.2.1,(a.2.2.1,((a.2.2.2.1++[b]),a.2.2.2.2)))).2.2.2.2.2))))),f,()) else some (j,a,f,())) λ(A,w,t,_)=>some (.inl (aQ b,A,w,t,())) else some (.inr (j,a,f,()))) (0,n,l,s,())).bind λ(B,c,u,_)=>(bJ ((c.2.2.1).length+([ar c.2.2.2.1]).length)).bind λ_=>some (.inl (aQ i,B,(c.1,(c.2.1,((c.2.2.1++[ar c.2.2.2.1]),c.2.2.2))),u,())) else some (.inr (n,l,()))) (0,z,v,r,())).bind λ(_,x,_)=>
 some (x,())
def AQ:ky->Option (b0×Int×Unit):=λ(b,_)=>(pf (b,())).bind λ(aK,_)=>(cond (aK !=0) (some (((0:Int),((0:Int),(([]:aM),(([]:aM),(([]:aM),()))))),aK,())) ((wV (b,())).bind λ(d,_)=>(loop (σ:=(Int×b0×jI×Unit)) (ρ:=(b0×jI×Unit)) (λ(a,e,c,_)=>cond (decide (a<ar d)) (Option.bind (α:=(b0×jI×Unit)) ((ax d a).bind λl=>(ax d a).bind λk=>cond (decide (l.1>=k.2.1)) ((ax d a).bind λf=>(bJ (c.length+([f]).length)).bind λ_=>some (e,(c++[f]),())) (some (e,c,()))) λ(j,g,_)=>some (.inl (aQ a,j,g,()))) (some (.inr (e,c,())))) (0,((0:Int),((0:Int),([],([],([],()))))),[],())).bind λ(_,h,_)=>(AR (b.1,b.2.1,h,())).bind λ(i,_)=>some (i,0,())))
def AU:ky->Option ((List aM×Unit)×Int×Unit):=λ(a,_)=>(pf (a,())).bind λ(g,_)=>(cond (g !=0) (some ((([]:List aM),()),g,())) (cond (a.1 !=a.2.1) (some ((([]:List aM),()),5,())) ((wZ (a.1,())).bind λ(l,_)=>(wV (a,())).bind λ(aK,_)=>(loop (σ:=(Int×(List aM×Unit)×List hG×Unit)) (ρ:=((List aM×Unit)×List hG×Unit)) (λ(c,h,b,_)=>cond (decide (c<ar aK)) ((ax aK c).bind λo=>(bk b.length o.1).bind λd=>(ax aK c).bind λn=>((bd b d λi=>some i).bind λj=>bk j.length n.2.1).bind λf=>(bd b d λe=>(bd e f λ_=>some (e.set f true)).map λp=>b.set d p).bind λq=>some (.inl (aQ c,h,q,()))) (some (.inr (h,b,())))) (0,([],()),l,())).bind λ(_,m,_)=>(wW (m,())).bind λ(k,_)=>some (k,0,()))))
def w8:(b0×aM×Unit)->Option ((List aM×Unit)×Unit):=λ(a,b,_)=>(AQ (a,())).bind λ(c,_,_)=>(AU (c,())).bind λ(d,_,_)=>(wX (d,b,())).bind λ(e,_,_)=>some (e,())
def w7:(b0×aM×Int×Int×Unit)->Option dV:=λ(d,c,e,f,_)=>(ax c e).bind λa=>(ax c f).bind λb=>(AP (d,(if b>a then b else a),(if b<a then b else a),())).bind λ(g,_)=>(qv (g,())).bind λ(h,_)=>some (h,())
def uB:kZ->Option dV:=λ(a,b,_)=>(qv (a,())).bind λ(c,_)=>(qv (b,())).bind λ(aK,_)=>(AF (c,aK,())).bind λ(d,_)=>some (d,())
def w6:dV->Option a8:=λ(a,_)=>(AM (a,0,())).bind λ(b,_)=>some (b,())
def AY:a8->Option dH:=λ(a,_)=>(cond ((a==0)==false) (some ((a==9223372036854775808),())) (some (true,())))
def AZ:hF->Option a8:=λ(a,b,_)=>(AL (a,b,0,())).bind λ(c,_)=>some (c,())
def qx:(b0×aM×Unit)->Option md:=λ(d,j,_)=>(uD (d,j,())).bind λ(E,_)=>(bif E !=0 then some ((([]:aM),(([]:aM),(([]:aM),(([]:aM),())))),0,E,()) else((w8 (d,j,())).bind λ(cs,_)=>(AX (cs,())).bind λ(F,_,_)=>(dI d.1 d.1).bind λci=>(loop (σ:=(Int×dq×List aM×Unit)) (ρ:=(dq×List aM×Unit)) (λ(p,I,C,_)=>cond (decide (p<d.1)) ((dI d.1 d.1).bind λco=>wr C p (List.replicate co (0:Int)) λfp=>some (.inl (aQ p,I,fp,()))) (some (.inr (I,C,())))) (0,([],([],([],([],())))),List.replicate ci [],())).bind λ(d4,a3,_)=>(bJ (([]:aM).length+j.length)).bind λ_=>(loop (σ:=tJ) (ρ:=((dq×dq×Unit)⊕md)) (λ(b,J,a4,v,_)=>bif decide (b<d.1) then((loop (σ:=tJ) (ρ:=Dl) (λ(n,K,D,w,_)=>(ax F b).bind λel=>bif decide (n<ar el) then(Option.bind (α:=(dq×List aM×dq×Unit)⊕(tJ⊕Dl)) (
 (ax F b).bind λem=>(ax em n).bind λc=>(w7 (d,j,c,b,())).bind λ(cv,_)=>(loop (σ:=(Int×dq×List aM×dq×ew×Unit)) (ρ:=(dq×List aM×dq×ew×Unit)) (λ(l,L,e,x,s,_)=>cond (decide (l<b)) ((bk e.length l).bind λy=>((bd e y λM=>some M).bind λN=>bk N.length c).bind λap=>(bd e y λO=>bd O ap λP=>some P).bind λeq=>(bk e.length l).bind λz=>((bd e z λQ=>some Q).bind λR=>bk R.length b).bind λav=>(bd e z λS=>bd S av λT=>some T).bind λex=>(uB (eq,ex,())).bind λ(dl,_)=>(uy (dl,())).bind λ(G,_)=>(bJ (s.length+([G]).length)).bind λ_=>some (.inl (aQ l,L,e,x,(s++[G]),()))) (some (.inr (L,e,x,s,())))) (0,K,D,w,[cv],())).bind λ(t,i,o,d5,_)=>(wT (d5,())).bind λ(r,_)=>
 Option.bind (α:=tJ⊕((dq×List aM×dq×Unit)⊕(tJ⊕Dl))) (cond (c==b) ((w6 (r,())).bind λ(H,_)=>Option.bind (α:=(Bool×dq×List aM×dq×Unit)) ((wS (r,())).bind λ(ds,_)=>cond (decide (ds<=0)==false) ((AY (H,())).bind λ(d0,_)=>some (d0,t,i,o,())) (some (true,t,i,o,()))) λ(d6,d7,bl,ad,_)=>cond d6 (some (.inr (.inr (.inr (.inr (.inr (.inr ((([]:aM),(([]:aM),(([]:aM),(([]:aM),())))),b,231,())))))))) (some (.inl (H,d7,bl,ad,())))) ((bk i.length b).bind λA=>((bd i A λU=>some U).bind λV=>bk V.length b).bind λa0=>(bd i A λW=>bd W a0 λX=>some X).bind λfn=>(qv (fn,())).bind λ(d1,_)=>(AZ (r,d1,())).bind λ(d2,_)=>some (.inl (d2,t,i,o,())))) λf=>match f with
 |.inl (m,d8,k,a,_)=>((qu (m,())).bind λ(d3,_)=>cond (!d3) (some (.inr (.inr (.inr (.inr (.inr ((([]:aM),(([]:aM),(([]:aM),(([]:aM),())))),0,233,()))))))) ((bk k.length b).bind λq=>((bd k q λY=>some Y).bind λZ=>bk Z.length c).bind λB=>(bd k q λu=>(bd u B λ_=>some (u.set B m)).map λfs=>k.set q fs).bind λft=>(bJ ((a.2.2.1).length+([c]).length)).bind λ_=>(bJ (((a.1,(a.2.1,((a.2.2.1++[c]),a.2.2.2))).2.2.2.1).length+([m]).length)).bind λ_=>some (.inl (d8,ft,((a.1,(a.2.1,((a.2.2.1++[c]),a.2.2.2))).1,((a.1,(a.2.1,((a.2.2.1++[c]),a.2.2.2))).2.1,((a.1,(a.2.1,((a.2.2.1++[c]),a.2.2.2))).2.2.1,(((a.1,(a.2.1,((a.2.2.1++[c]),a.2.2.2))).2.2.2.1++[m]),(a.1,(a.2.1,((a.2.2.1++[c]),a.2.2.2))).2.2.2.2)))),()))))
 |.inr g=>some g) λf=>match f with
 |.inl (d9,bs,am,_)=>(some (.inl (aQ n,d9,bs,am,())))
 |.inr g=>some g) else some (.inr (.inl (K,D,w,())))) (0,J,a4,v,())).bind λf=>match f with
 |.inl (ek,ce,h,_)=>((bJ ((h.2.1).length+([ar h.2.2.1]).length)).bind λ_=>some (.inl (aQ b,ek,ce,(h.1,((h.2.1++[ar h.2.2.1]),h.2.2)),())))
 |.inr g=>some g) else some (.inr (.inl (J,v,())))) (0,d4,a3,(([]++j),([0],(([]:aM),(([]:aM),())))),())).bind λf=>match f with
 |.inl (_,an,_)=>(some (an,d.1,0,()))
 |.inr g=>some g))
def wJ:(dq×dq×Unit)->Option dH:=λ(a,b,_)=>(r6 (a.1,b.1,())).bind λ(c,_)=>(cond (c==true) ((r6 (a.2.1,b.2.1,())).bind λ(aK,_)=>cond (aK==true) ((r6 (a.2.2.1,b.2.2.1,())).bind λ(d,_)=>cond (d==true) ((As (a.2.2.2.1,b.2.2.2.1,())).bind λ(e,_)=>some (e,())) (some (false,()))) (some (false,()))) (some (false,())))
def zw:eG->Option dH:=λ(a,_)=>(dI (ar a) (ar a)).bind λg=>(loop (σ:=(Int×hG×Unit)) (ρ:=hH) (λ(e,f,_)=>bif decide (e<ar a) then(Option.bind (α:=(hG×Unit)⊕((Int×hG×Unit)⊕hH)) ((ax a e).bind λd=>Option.bind (α:=(hG×Unit)⊕((hG×Unit)⊕((Int×hG×Unit)⊕hH))) (cond (decide (d<0)==false) (cond (decide (d>=ar a)==false) (rd f d λj=>cond j (some (.inr (.inr (.inr (.inr (false,())))))) (some (.inl (f,())))) (some (.inr (.inr (.inr (.inr (false,()))))))) (some (.inr (.inr (.inr (.inr (false,()))))))) λb=>match b with
 |.inl (i,_)=>(wr i d true λk=>some (.inl (k,())))
 |.inr c=>some c) λb=>match b with
 |.inl (h,_)=>(some (.inl (aQ e,h,())))
 |.inr c=>some c) else some (.inr (.inl ()))) (0,List.replicate g false,())).bind λb=>match b with
 |.inl _=>(some (true,()))
 |.inr c=>some c
def zy:(dq×Unit)->Option dH:=λ(a,_)=>Option.bind (α:=Unit⊕dH) ((ax a.2.1 0).bind λm=>cond ((m !=0)==false) ((ax a.2.1 (ar a.1)).bind λn=>cond (n !=ar a.2.2.1) (some (.inr (false,()))) (some (.inl ()))) (some (.inr (false,())))) λc=>match c with
 |.inl _=>((loop (σ:=a8) (ρ:=hH) (λ(e,_)=>bif decide (e<ar a.1) then(Option.bind (α:=Unit⊕(a8⊕hH)) (Option.bind (α:=Unit⊕(Unit⊕(a8⊕hH))) ((ax a.2.1 e).bind λo=>(ax a.2.1 (aQ e)).bind λp=>cond (decide (o>p)==false) ((ax a.2.1 (aQ e)).bind λq=>cond (decide (q>ar a.2.2.1)) (some (.inr (.inr (.inr (.inr (false,())))))) (some (.inl ()))) (some (.inr (.inr (.inr (.inr (false,()))))))) λc=>match c with
 |.inl _=>((ax a.2.1 e).bind λr=>(ax a.2.1 (aQ e)).bind λs=>((e9 r).bind λg=>(e9 s).bind λh=>(fy g h (a.2.2.1).length).map λ_=>(g,h)).bind λb=>Option.bind (α:=Unit⊕(Unit⊕(a8⊕hH))) (cond ((ar (((a.2.2.1).take b.2).drop b.1)==0)==false) ((ax (((a.2.2.1).take b.2).drop b.1) 0).bind λi=>cond ((i !=e)==false) ((ax (((a.2.2.1).take b.2).drop b.1) (aq (ar (((a.2.2.1).take b.2).drop b.1)-1))).bind λj=>cond (decide (j>=ar a.1)) (some (.inr (.inr (.inr (.inr (false,())))))) (some (.inl ()))) (some (.inr (.inr (.inr (.inr (false,()))))))) (some (.inr (.inr (.inr (.inr (false,()))))))) λc=>match c with
 |.inl _=>((loop (σ:=a8) (ρ:=(Unit⊕(Unit⊕(a8⊕hH)))) (λ(f,_)=>cond (decide (f<ar (((a.2.2.1).take b.2).drop b.1))) ((ax (((a.2.2.1).take b.2).drop b.1) (aq (f-1))).bind λk=>(ax (((a.2.2.1).take b.2).drop b.1) f).bind λl=>cond (decide (k>=l)) (some (.inr (.inr (.inr (.inr (.inr (false,()))))))) (some (.inl (aQ f,())))) (some (.inr (.inl ())))) (1,())).bind λc=>match c with
 |.inl _=>(some (.inl ()))
 |.inr d=>some d)
 |.inr d=>some d)
 |.inr d=>some d) λc=>match c with
 |.inl _=>(some (.inl (aQ e,())))
 |.inr d=>some d) else some (.inr (.inl ()))) (0,())).bind λc=>match c with
 |.inl _=>(some (true,()))
 |.inr d=>some d)
 |.inr d=>some d
def rT:(dq×Unit)->Option a8:=λ(a,_)=>Option.bind (α:=Unit⊕a8) (cond (decide (ar a.1>200)) (some (.inr (6,()))) ((zw (a.1,())).bind λ(h,_)=>cond (!h) (some (.inr (90,()))) (Option.bind (α:=dH) (cond ((ar a.2.1 !=aQ (ar a.1))==false) (some ((ar a.2.2.1 !=ar a.2.2.2.1),())) (some (true,()))) λ(j,_)=>cond j (some (.inr (2,()))) ((zy (a,())).bind λ(aK,_)=>cond (!aK) (some (.inr (240,()))) (some (.inl ())))))) λb=>match b with
 |.inl _=>((loop (σ:=a8) (ρ:=hI) (λ(d,_)=>cond (decide (d<ar a.2.2.2.1)) ((ax a.2.2.2.1 d).bind λl=>(o7 (l,())).bind λ(i,_)=>cond (!i) (some (.inr (.inr (4,())))) (some (.inl (aQ d,())))) (some (.inr (.inl ())))) (0,())).bind λb=>match b with
 |.inl _=>((loop (σ:=a8) (ρ:=hI) (λ(e,_)=>cond (decide (e<ar a.1)) ((ax a.2.1 e).bind λm=>(ax a.2.2.2.1 m).bind λk=>(mi (k,())).bind λ(f,_)=>(ob (f,())).bind λ(g,_)=>cond (decide (g<=0)) (some (.inr (.inr (4,())))) (some (.inl (aQ e,())))) (some (.inr (.inl ())))) (0,())).bind λb=>match b with
 |.inl _=>(some (0,()))
 |.inr c=>some c)
 |.inr c=>some c)
 |.inr c=>some c
def zx:(dq×Unit)->Option a8:=λ(a,_)=>(rT (a,())).bind λ(b,_)=>(cond (b !=0) (some (b,())) (cond (decide (ar a.1>64)) (some (6,())) (some (0,()))))
def A1:(aM×Int×Int×Unit)->Option dH:=λ(a,c,f,_)=>Option.bind (α:=Unit⊕dH) (cond ((ar a !=aQ c)==false) ((ax a 0).bind λg=>cond ((g !=0)==false) ((ax a c).bind λh=>cond (h !=f) (some (.inr (false,()))) (some (.inl ()))) (some (.inr (false,())))) (some (.inr (false,())))) λd=>match d with
 |.inl _=>((loop (σ:=a8) (ρ:=hH) (λ(b,_)=>cond (decide (b<c)) ((ax a b).bind λi=>(ax a (aQ b)).bind λj=>cond (decide (i>j)) (some (.inr (.inr (false,())))) (some (.inl (aQ b,())))) (some (.inr (.inl ())))) (0,())).bind λd=>match d with
 |.inl _=>(some (true,()))
 |.inr e=>some e)
 |.inr e=>some e
def sa:(dq×Unit)->Option a8:=λ(a,_)=>Option.bind (α:=Unit⊕a8) (cond (decide (ar a.1>200)) (some (.inr (6,()))) ((w9 (a.1,ar a.1,())).bind λ(i,_)=>cond (!i) (some (.inr (90,()))) (Option.bind (α:=dH) (cond ((ar a.2.1 !=aQ (ar a.1))==false) (some ((ar a.2.2.1 !=ar a.2.2.2.1),())) (some (true,()))) λ(l,_)=>cond l (some (.inr (2,()))) ((A1 (a.2.1,ar a.1,ar a.2.2.1,())).bind λ(aK,_)=>cond (!aK) (some (.inr (240,()))) (some (.inl ())))))) λb=>match b with
 |.inl _=>((loop (σ:=a8) (ρ:=hI) (λ(d,_)=>bif decide (d<ar a.1) then(Option.bind (α:=Unit⊕(a8⊕hI)) ((ax a.2.1 d).bind λw=>(loop (σ:=a8) (ρ:=(Unit⊕(Unit⊕(a8⊕hI)))) (λ(e,_)=>(ax a.2.1 (aQ d)).bind λx=>bif decide (e<x) then(Option.bind (α:=Unit⊕(a8⊕(Unit⊕(Unit⊕(a8⊕hI))))) ((ax a.2.2.1 e).bind λy=>cond (decide (y>=ar a.1)==false) ((ax a.2.1 d).bind λm=>cond (decide (e>m)==true) ((ax a.2.2.1 e).bind λn=>(ax a.2.2.1 (aq (e-1))).bind λo=>cond (decide (n<=o)) (some (.inr (.inr (.inr (.inr (.inr (.inr (240,())))))))) (some (.inl ()))) (some (.inl ()))) (some (.inr (.inr (.inr (.inr (.inr (.inr (240,()))))))))) λb=>match b with
 |.inl _=>(some (.inl (aQ e,())))
 |.inr c=>some c) else some (.inr (.inl ()))) (w,())).bind λb=>match b with
 |.inl _=>((ax a.2.1 d).bind λp=>(ax a.2.1 (aQ d)).bind λq=>cond ((p==q)==false) ((ax a.2.1 d).bind λr=>(ax a.2.2.1 r).bind λs=>cond (s !=d) (some (.inr (.inr (.inr (240,()))))) (some (.inl ()))) (some (.inr (.inr (.inr (240,()))))))
 |.inr c=>some c) λb=>match b with
 |.inl _=>(some (.inl (aQ d,())))
 |.inr c=>some c) else some (.inr (.inl ()))) (0,())).bind λb=>match b with
 |.inl _=>((loop (σ:=a8) (ρ:=hI) (λ(g,_)=>cond (decide (g<ar a.2.2.2.1)) ((ax a.2.2.2.1 g).bind λt=>(qu (t,())).bind λ(h,_)=>cond (!h) (some (.inr (.inr (4,())))) (some (.inl (aQ g,())))) (some (.inr (.inl ())))) (0,())).bind λb=>match b with
 |.inl _=>((loop (σ:=a8) (ρ:=hI) (λ(f,_)=>cond (decide (f<ar a.1)) ((ax a.2.1 f).bind λu=>(ax a.2.2.2.1 u).bind λv=>(qv (v,())).bind λ(j,_)=>(wS (j,())).bind λ(k,_)=>cond (decide (k<=0)) (some (.inr (.inr (4,())))) (some (.inl (aQ f,())))) (some (.inr (.inl ())))) (0,())).bind λb=>match b with
 |.inl _=>(some (0,()))
 |.inr c=>some c)
 |.inr c=>some c)
 |.inr c=>some c)
 |.inr c=>some c
def A3:md->Option a8:=λ(a,d,c,_)=>(ax a.2.1 c).bind λg=>(loop (σ:=a8) (ρ:=hI) (λ(b,_)=>(ax a.2.1 (aQ c)).bind λh=>cond (decide (b<h)) ((ax a.2.2.1 b).bind λi=>cond (i==d) ((ax a.2.2.2.1 b).bind λj=>some (.inr (.inr (j,())))) (some (.inl (aQ b,())))) (some (.inr (.inl ())))) (g,())).bind λe=>match e with
 |.inl _=>(some (0,()))
 |.inr f=>some f
def A0:(dq×Unit)->Option (gR×Int×Unit):=λ(a,_)=>(sa (a,())).bind λ(g,_)=>(cond (g !=0) (some (((0:Int),((0:Int),(([]:aM),()))),g,())) (cond (decide (ar a.1>64)) (some (((0:Int),((0:Int),(([]:aM),()))),6,())) ((loop (σ:=(Int×gR×gR×Unit)) (ρ:=(gR×gR×Unit)) (λ(d,h,e,_)=>cond (decide (d<ar a.1)) ((loop (σ:=(Int×gR×gR×Unit)) (ρ:=(gR×gR×Unit)) (λ(c,i,b,_)=>cond (decide (c<ar a.1)) ((A3 (a,c,d,())).bind λ(f,_)=>(bJ ((b.2.2.1).length+([f]).length)).bind λ_=>some (.inl (aQ c,i,(b.1,(b.2.1,((b.2.2.1++[f]),b.2.2.2))),()))) (some (.inr (i,b,())))) (0,h,e,())).bind λ(l,j,_)=>some (.inl (aQ d,l,j,()))) (some (.inr (h,e,())))) (0,((0:Int),((0:Int),([],()))),(ar a.1,(ar a.1,(([]:aM),()))),())).bind λ(_,k,_)=>some (k,0,()))))
def zu:(dq×Unit)->Option lC:=λ(a,_)=>(zx (a,())).bind λ(l,_)=>(bif l !=0 then some (((0:Int),((0:Int),(([]:ew),()))),l,()) else(dI (aq (ar a.1*ar a.1)) (aq (ar a.1*ar a.1))).bind λA=>(loop (σ:=(Int×dh×List ew×Unit)) (ρ:=(dh×List ew×Unit)) (λ(d,n,s,_)=>bif decide (d<ar a.1) then(ax a.2.1 d).bind λK=>(loop (σ:=(Int×dh×List ew×Unit)) (ρ:=(dh×List ew×Unit)) (λ(f,o,t,_)=>(ax a.2.1 (aQ d)).bind λL=>bif decide (f<L) then(ax a.2.1 d).bind λM=>(loop (σ:=(Int×dh×List ew×Unit)) (ρ:=(dh×List ew×Unit)) (λ(g,p,b,_)=>(ax a.2.1 (aQ d)).bind λN=>bif decide (g<N) then(ax a.2.2.1 g).bind λu=>(ax a.2.2.1 f).bind λv=>(bk b.length (aq (aq (u*ar a.1)+v))).bind λi=>(ax a.2.2.2.1 f).bind λO=>(mi (O,())).bind λ(C,_)=>(ax a.2.2.2.1 g).bind λP=>(mi (P,())).bind λ(B,_)=>
 (tZ (C,B,())).bind λ(j,_)=>(bd b i λy=>some y).bind λI=>(bJ (I.length+([j]).length)).bind λ_=>(bk b.length (aq (aq (u*ar a.1)+v))).bind λe=>cond (Nat.beq i e&&true) ((bd b e λz=>some z).bind λJ=>(bd b e λ_=>some (b.set e (J++[j]))).bind λQ=>some (.inl (aQ g,p,Q,()))) none else some (.inr (p,b,()))) (M,o,t,())).bind λ(D,G,_)=>some (.inl (aQ f,D,G,())) else some (.inr (o,t,()))) (K,n,s,())).bind λ(E,H,_)=>some (.inl (aQ d,E,H,())) else some (.inr (n,s,()))) (0,((0:Int),((0:Int),([],()))),List.replicate A [],())).bind λ(F,q,_)=>(loop (σ:=(Int×dh×List ew×dh×Unit)) (ρ:=iP) (λ(h,m,r,c,_)=>bif decide (h<ar q) then rd r h λw=>(ub (w,())).bind λ(k,_)=>(bJ ((c.2.2.1).length+([k]).length)).bind λ_=>
 some (.inl (aQ h,m,r,(c.1,(c.2.1,((c.2.2.1++[k]),c.2.2.2))),())) else some (.inr (m,c,()))) (0,F,q,(ar a.1,(ar a.1,(([]:ew),()))),())).bind λ(_,x,_)=>some (x,0,()))
def w5:kZ->Option (dh×Unit):=λ(b,a,_)=>(dI (aq (b*a)) (aq (b*a))).bind λc=>some ((b,(a,(List.replicate c (false,((false,([],())),((0:Int),()))),()))),())
def A2:(dq×Unit)->Option lC:=λ(t,_)=>(A0 (t,())).bind λ(a,m,_)=>(bif m !=0 then some (((0:Int),((0:Int),(([]:ew),()))),m,()) else(w5 (a.1,a.1,())).bind λ(x,_)=>(loop (σ:=(Int×dh×gR×dh×Unit)) (ρ:=iP) (λ(d,o,u,h,_)=>bif decide (d<a.1) then(loop (σ:=(Int×dh×gR×dh×Unit)) (ρ:=(dh×gR×dh×Unit)) (λ(c,p,l,i,_)=>bif decide (c<a.1) then(loop (σ:=(Int×dh×gR×dh×ew×Unit)) (ρ:=(dh×gR×dh×ew×Unit)) (λ(e,q,f,j,g,_)=>cond (decide (e<a.1)) ((ax f.2.2.1 (aq (aq (e*a.1)+c))).bind λC=>(ax f.2.2.1 (aq (aq (e*a.1)+d))).bind λD=>(uB (C,D,())).bind λ(n,_)=>(bJ (g.length+([n]).length)).bind λ_=>some (.inl (aQ e,q,f,j,(g++[n]),()))) (some (.inr (q,f,j,g,())))) (0,p,l,i,[],())).bind λ(z,v,b,A,_)=>(wT (A,())).bind λ(y,_)=>
 (bk (b.2.2.1).length (aq (aq (d*a.1)+c))).bind λk=>((((bd b.2.2.1 k λ_=>some ((b.2.2.1).set k y)).map λE=>(E,b.2.2.2)).map λF=>(b.2.1,F)).map λG=>(b.1,G)).bind λH=>some (.inl (aQ c,z,v,H,())) else some (.inr (p,l,i,()))) (0,o,u,h,())).bind λ(B,w,r,_)=>some (.inl (aQ d,B,w,r,())) else some (.inr (o,h,()))) (0,((0:Int),((0:Int),([],()))),a,x,())).bind λ(_,s,_)=>some (s,0,()))
def o5:(b0×aM×Unit)->Option lC:=λ(j,m,_)=>(ph (j,m,())).bind λ(b,f,_)=>(cond (f !=0) (some (((0:Int),((0:Int),(([]:ew),()))),f,())) (b.bind λp=>cond (decide (p.1>64)) (some (((0:Int),((0:Int),(([]:ew),()))),6,())) (b.bind λq=>b.bind λr=>b.bind λs=>(loop (σ:=kX) (ρ:=iP) (λ(c,h,e,_)=>cond (decide (c<s.1)) (b.bind λt=>(loop (σ:=kX) (ρ:=iP) (λ(d,i,a,_)=>cond (decide (d<t.1)) ((uE (b,d,c,())).bind λ(n,_)=>(o6 (n,())).bind λ(g,_)=>(bJ ((a.2.2.1).length+([g]).length)).bind λ_=>some (.inl (aQ d,i,(a.1,(a.2.1,((a.2.2.1++[g]),a.2.2.2))),()))) (some (.inr (i,a,())))) (0,h,e,())).bind λ(o,k,_)=>some (.inl (aQ c,o,k,()))) (some (.inr (h,e,())))) (0,((0:Int),((0:Int),([],()))),(q.1,(r.1,(([]:ew),()))),())).bind λ(_,l,_)=>some (l,0,()))))
def pg:(b0×aM×Unit)->Option lC:=λ(a,g,_)=>(uD (a,g,())).bind λ(h,_)=>(bif h !=0 then some (((0:Int),((0:Int),(([]:ew),()))),h,()) else bif decide (a.1>64) then some (((0:Int),((0:Int),(([]:ew),()))),6,()) else(w5 (a.1,a.1,())).bind λ(n,_)=>(loop (σ:=kX) (ρ:=iP) (λ(d,i,e,_)=>cond (decide (d<a.1)) ((loop (σ:=kX) (ρ:=iP) (λ(c,j,b,_)=>cond (decide (c<a.1)) ((w7 (a,g,c,d,())).bind λ(m,_)=>(bk (b.2.2.1).length (aq (aq (d*a.1)+c))).bind λf=>((((bd b.2.2.1 f λ_=>some ((b.2.2.1).set f m)).map λp=>(p,b.2.2.2)).map λq=>(b.2.1,q)).map λr=>(b.1,r)).bind λs=>some (.inl (aQ c,j,s,()))) (some (.inr (j,b,())))) (0,i,e,())).bind λ(o,k,_)=>some (.inl (aQ d,o,k,()))) (some (.inr (i,e,())))) (0,((0:Int),((0:Int),([],()))),n,())).bind λ(_,l,_)=>
 some (l,0,()))
def rU:(b0×dq×Unit)->Option (bw×Int×Unit):=λ(j,c,_)=>(rT (c,())).bind λ(h,_)=>(bif h !=0 then some ((false,((false,([],())),((0:Int),()))),h,()) else(o5 (j,c.1,())).bind λ(aK,i,_)=>bif i !=0 then some ((false,((false,([],())),((0:Int),()))),i,()) else(zu (c,())).bind λ(q,_,_)=>(zF (0,())).bind λ(r,_)=>(loop (σ:=(Int×bw×dh×dh×bw×Unit)) (ρ:=hF) (λ(a,f,b,e,d,_)=>cond (decide (a<ar aK.2.2.1)) (Option.bind (α:=(bw×dh×dh×bw×Unit)) ((ax b.2.2.1 a).bind λt=>(ax e.2.2.1 a).bind λu=>(zK (t,u,())).bind λ(o,_)=>(zE (o,())).bind λ(g,_)=>(wk (g,d,())).bind λ(p,_,_)=>cond (decide (p>0)) (some (f,b,e,g,())) (some (f,b,e,d,()))) λ(s,k,n,l,_)=>some (.inl (aQ a,s,k,n,l,()))) (some (.inr (f,d,())))) (0,(false,((false,([],())),((0:Int),()))),aK,q,r,())).bind λ(_,m,_)=>
 some (m,0,()))
def w4:hF->Option dH:=λ(a,b,_)=>(AC (a,b,())).bind λ(c,_,_)=>some (decide (c<0),())
def D6:iP->Option dV:=λ(d,f,_)=>(loop (σ:=(Int×bw×bw×Unit)) (ρ:=hF) (λ(a,c,b,_)=>cond (decide (a<ar d.2.2.1)) (Option.bind (α:=hF) ((ax d.2.2.1 a).bind λl=>(ax f.2.2.1 a).bind λm=>(AI (l,m,())).bind λ(j,_)=>(AA (j,())).bind λ(e,_)=>(w4 (b,e,())).bind λ(i,_)=>cond i (some (c,e,())) (some (c,b,()))) λ(k,g,_)=>some (.inl (aQ a,k,g,()))) (some (.inr (c,b,())))) (0,(false,((false,([],())),((0:Int),()))),(false,((false,([],())),((0:Int),()))),())).bind λ(_,h,_)=>some (h,())
def sb:(b0×dq×Unit)->Option (bw×Int×Unit):=λ(d,a,_)=>(sa (a,())).bind λ(b,_)=>(cond (b !=0) (some ((false,((false,([],())),((0:Int),()))),b,())) ((pg (d,a.1,())).bind λ(aK,c,_)=>cond (c !=0) (some ((false,((false,([],())),((0:Int),()))),c,())) ((A2 (a,())).bind λ(e,_,_)=>(D6 (aK,e,())).bind λ(f,_)=>some (f,0,()))))
def D4:h2->Option dH:=λ(b,c,_)=>(bif ar b !=ar c then some (false,()) else((loop (σ:=a8) (ρ:=hH) (λ(a,_)=>cond (decide (a<ar b)) ((ax b a).bind λf=>(ax c a).bind λg=>cond (f !=g) (some (.inr (.inr (false,())))) (some (.inl (aQ a,())))) (some (.inr (.inl ())))) (0,())).bind λd=>match d with
 |.inl _=>(some (true,()))
 |.inr e=>some e))
def D2:iQ->Option dH:=λ(a,b,_)=>(cond ((a.1==b.1)==true) ((D4 (a.2.1,b.2.1,())).bind λ(c,_)=>some (c,())) (some (false,())))
def D3:hF->Option dH:=λ(a,b,_)=>(cond ((a.1==b.1)==true) (cond ((a.2.2.1==b.2.2.1)==true) ((D2 (a.2.1,b.2.1,())).bind λ(c,_)=>some (c,())) (some (false,()))) (some (false,())))
def r5:hF->Option dH:=λ(a,b,_)=>(iU (a,())).bind λ(c,_)=>(iU (b,())).bind λ(aK,_)=>(D3 (c,aK,())).bind λ(d,_)=>some (d,())
def ur:iP->Option dH:=λ(a,b,_)=>Option.bind (α:=Unit⊕dH) (cond ((a.1 !=b.1)==false) (cond ((a.2.1 !=b.2.1)==false) (cond (ar a.2.2.1 !=ar b.2.2.1) (some (.inr (false,()))) (some (.inl ()))) (some (.inr (false,())))) (some (.inr (false,())))) λd=>match d with
 |.inl _=>((loop (σ:=a8) (ρ:=hH) (λ(c,_)=>cond (decide (c<ar a.2.2.1)) ((ax a.2.2.1 c).bind λg=>(ax b.2.2.1 c).bind λh=>(r5 (g,h,())).bind λ(f,_)=>cond (!f) (some (.inr (.inr (false,())))) (some (.inl (aQ c,())))) (some (.inr (.inl ())))) (0,())).bind λd=>match d with
 |.inl _=>(some (true,()))
 |.inr e=>some e)
 |.inr e=>some e
def DY:kY->Option a8:=λ(b,e,_)=>(loop (σ:=a8) (ρ:=hI) (λ(a,_)=>cond (decide (a<ar b)) ((ax b a).bind λf=>cond (e==f) (some (.inr (.inr (a,())))) (some (.inl (aQ a,())))) (some (.inr (.inl ())))) (0,())).bind λc=>match c with
 |.inl _=>(some ((-1:Int),()))
 |.inr d=>some d
def ID:cT->Option a8:=λ(b,a,c,_)=>Option.bind (α:=dH) (cond (decide (b<0)==false) (some (decide (a<0),())) (some (true,()))) λ(d,_)=>(cond d (some (5,())) (Option.bind (α:=dH) (cond (decide (b>64)==false) (some (decide (a>64),())) (some (true,()))) λ(e,_)=>cond e (some (6,())) (cond (c !=aq (b*a)) (some (2,())) (some (0,())))))
def zC:(dh×Unit)->Option a8:=λ(a,_)=>(ID (a.1,a.2.1,ar a.2.2.1,())).bind λ(c,_)=>(bif c !=0 then some (c,()) else((loop (σ:=a8) (ρ:=hI) (λ(b,_)=>cond (decide (b<ar a.2.2.1)) ((ax a.2.2.1 b).bind λg=>(wm (g,())).bind λ(f,_)=>cond (!f) (some (.inr (.inr (4,())))) (some (.inl (aQ b,())))) (some (.inr (.inl ())))) (0,())).bind λd=>match d with
 |.inl _=>(some (0,()))
 |.inr e=>some e))
def IC:kY->Option dH:=λ(b,f,_)=>(loop (σ:=a8) (ρ:=hH) (λ(a,_)=>bif decide (a<ar b) then(Option.bind (α:=Unit⊕(a8⊕hH)) ((ax b a).bind λe=>cond (decide (e<0)==false) (cond (decide (e>=f)==false) (cond (decide (a>0)==true) ((ax b (aq (a-1))).bind λg=>cond (decide (g>=e)) (some (.inr (.inr (.inr (false,()))))) (some (.inl ()))) (some (.inl ()))) (some (.inr (.inr (.inr (false,())))))) (some (.inr (.inr (.inr (false,())))))) λc=>match c with
 |.inl _=>(some (.inl (aQ a,())))
 |.inr d=>some d) else some (.inr (.inl ()))) (0,())).bind λc=>match c with
 |.inl _=>(some (true,()))
 |.inr d=>some d
def Iy:(dh×aM×dh×Unit)->Option lC:=λ(a,d,e,_)=>(zC (a,())).bind λ(p,_)=>(bif p !=0 then some (((0:Int),((0:Int),(([]:ew),()))),p,()) else(zC (e,())).bind λ(q,_)=>bif q !=0 then some (((0:Int),((0:Int),(([]:ew),()))),q,()) else(Option.bind (α:=(dh×Unit)⊕lC) (Option.bind (α:=(Bool×dh×Unit)) (cond ((a.1 !=a.2.1)==false) (cond ((e.1 !=e.2.1)==false) (some ((ar d !=e.1),((0:Int),((0:Int),([],()))),())) (some (true,((0:Int),((0:Int),([],()))),()))) (some (true,((0:Int),((0:Int),([],()))),()))) λ(D,E,_)=>cond D (some (.inr (((0:Int),((0:Int),(([]:ew),()))),5,()))) (some (.inl (E,())))) λf=>match f with
 |.inl (F,_)=>((IC (d,a.1,())).bind λ(z,_)=>bif !z then some (((0:Int),((0:Int),(([]:ew),()))),232,()) else((dI (ar a.2.2.1) (ar a.2.2.1)).bind λv=>(loop (σ:=kX) (ρ:=iP) (λ(h,r,c,_)=>cond (decide (h<ar a.2.2.1)) ((ax a.2.2.1 h).bind λI=>(o6 (I,())).bind λ(A,_)=>(bk (c.2.2.1).length h).bind λm=>((((bd c.2.2.1 m λ_=>some ((c.2.2.1).set m A)).map λM=>(M,c.2.2.2)).map λN=>(c.2.1,N)).map λO=>(c.1,O)).bind λP=>some (.inl (aQ h,r,P,()))) (some (.inr (r,c,())))) (0,F,(a.1,(a.2.1,(List.replicate v (false,((false,([],())),((0:Int),()))),()))),())).bind λ(G,w,_)=>(loop (σ:=kX) (ρ:=(iP⊕lC)) (λ(i,s,o,_)=>bif decide (i<ar d) then((loop (σ:=kX) (ρ:=(iP⊕(kX⊕(iP⊕lC)))) (λ(j,t,b,_)=>bif decide (j<ar d) then(ax d i).bind λk=>(ax d j).bind λl=>
 rd b.2.2.1 (aq (aq (k*a.1)+l)) λJ=>(ax e.2.2.1 (aq (aq (i*e.1)+j))).bind λK=>(wj (J,K,())).bind λ(B,_)=>(bk (b.2.2.1).length (aq (aq (k*a.1)+l))).bind λn=>((((bd b.2.2.1 n λ_=>some ((b.2.2.1).set n B)).map λQ=>(Q,b.2.2.2)).map λR=>(b.2.1,R)).map λS=>(b.1,S)).bind λu=>rd u.2.2.1 (aq (aq (k*a.1)+l)) λL=>(wm (L,())).bind λ(C,_)=>cond (!C) (some (.inr (.inr (.inr (.inr (((0:Int),((0:Int),(([]:ew),()))),233,())))))) (some (.inl (aQ j,t,u,()))) else some (.inr (.inl (t,b,())))) (0,s,o,())).bind λf=>match f with
 |.inl (H,x,_)=>(some (.inl (aQ i,H,x,())))
 |.inr g=>some g) else some (.inr (.inl (s,o,())))) (0,G,w,())).bind λf=>match f with
 |.inl (_,y,_)=>(some (y,0,()))
 |.inr g=>some g))
 |.inr g=>some g))
def IE:(Option lB×(Int×(Int×(aM×a8)))×mW×List dh×Unit)->Option lC:=λ(G,a,o,L,_)=>(dI (aq (ar a.2.2.1*ar a.2.2.1)) (aq (ar a.2.2.1*ar a.2.2.1))).bind λH=>(loop (σ:=kX) (ρ:=iP) (λ(c,w,l,_)=>bif decide (c<a.2.1) then(loop (σ:=kX) (ρ:=iP) (λ(f,j,b,_)=>bif decide (f<ar a.2.2.1) then Option.bind (α:=iP) ((ax a.2.2.1 f).bind λz=>bif decide (z>=c) then(uE (G,z,c,())).bind λ(t,_)=>(bk (b.2.2.1).length (aq (aq (aq (c-a.1)*ar a.2.2.1)+f))).bind λp=>((((bd b.2.2.1 p λ_=>some ((b.2.2.1).set p t)).map λS=>(S,b.2.2.2)).map λT=>(b.2.1,T)).map λU=>(b.1,U)).bind λe=>(bk (e.2.2.1).length (aq (aq (aq (f*ar a.2.2.1)+c)-a.1))).bind λq=>((((bd e.2.2.1 q λ_=>some ((e.2.2.1).set q t)).map λV=>(V,e.2.2.2)).map λW=>(e.2.1,W)).map λX=>(e.1,X)).bind λY=>
 some (j,Y,()) else some (j,b,())) λ(M,B,_)=>some (.inl (aQ f,M,B,())) else some (.inr (j,b,()))) (0,w,l,())).bind λ(N,C,_)=>some (.inl (aQ c,N,C,())) else some (.inr (w,l,()))) (a.1,((0:Int),((0:Int),([],()))),(ar a.2.2.1,(ar a.2.2.1,(List.replicate H (false,((false,([],())),((0:Int),()))),()))),())).bind λ(O,D,_)=>(loop (σ:=kX) (ρ:=(iP⊕lC)) (λ(h,x,m,_)=>bif decide (h<ar o) then(ax o h).bind λd=>((e9 (aq (d.2.1-d.1))).bind λr=>(some ((d.2.2.1).length)).bind λs=>(fy r s (d.2.2.1).length).map λ_=>(r,s)).bind λg=>(loop (σ:=(Int×dh×dh×aM×Unit)) (ρ:=(dh×dh×aM×Unit)) (λ(k,y,n,i,_)=>bif decide (k<ar (((d.2.2.1).take g.2).drop g.1)) then(ax (((d.2.2.1).take g.2).drop g.1) k).bind λQ=>(DY (a.2.2.1,Q,())).bind λ(u,_)=>(bJ (i.length+([u]).length)).bind λ_=>
 some (.inl (aQ k,y,n,(i++[u]),())) else some (.inr (y,n,i,()))) (0,x,m,[],())).bind λ(P,E,A,_)=>(ax L h).bind λR=>(Iy (E,A,R,())).bind λ(K,v,_)=>cond (v !=0) (some (.inr (.inr (((0:Int),((0:Int),(([]:ew),()))),v,())))) (some (.inl (aQ h,P,K,()))) else some (.inr (.inl (x,m,())))) (0,O,D,())).bind λI=>match I with
 |.inl (_,F,_)=>(some (F,0,()))
 |.inr J=>some J
def zD:(Option kx×Int×Int×Int×Unit)->Option dV:=λ(a,d,e,h,_)=>a.bind λr=>a.bind λs=>(ax r.1.2.2.1 (aq (aq (e*s.1.1)+d))).bind λt=>(loop (σ:=(Int×bw×ew×Unit)) (ρ:=(bw×ew×Unit)) (λ(b,g,c,_)=>cond (decide (b<h)) (a.bind λl=>a.bind λm=>(ax l.2.2.1 (aq (aq (b*m.1.1)+d))).bind λn=>a.bind λo=>a.bind λp=>(ax o.2.2.1 (aq (aq (b*p.1.1)+e))).bind λq=>(tZ (n,q,())).bind λ(i,_)=>(ua (i,())).bind λ(f,_)=>(bJ (c.length+([f]).length)).bind λ_=>some (.inl (aQ b,g,(c++[f]),()))) (some (.inr (g,c,())))) (0,(false,((false,([],())),((0:Int),()))),[t],())).bind λ(_,k,_)=>(ub (k,())).bind λ(j,_)=>some (j,())
def DM:(kx×Int×Int×Int×Unit)->Option (kx×Bool×Unit):=λ(a,d,e,c,_)=>(mi (c,())).bind λ(i,_)=>(bk (a.2.1.2.2.1).length (aq (aq (e*a.1.1)+d))).bind λg=>((((((bd a.2.1.2.2.1 g λ_=>some ((a.2.1.2.2.1).set g c)).map λq=>(q,a.2.1.2.2.2)).map λr=>(a.2.1.2.1,r)).map λj=>(a.2.1.1,j)).map λk=>(k,a.2.2)).map λl=>(a.1,l)).bind λb=>(bk (b.2.2.1).length (aq (aq (e*a.1.1)+d))).bind λf=>((((bd b.2.2.1 f λ_=>some ((b.2.2.1).set f i)).map λm=>(m,b.2.2.2)).map λn=>(b.2.1,n)).map λo=>(b.1,o)).bind λp=>(o7 (c,())).bind λ(h,_)=>some (p,h,())
def IA:(kx×Int×Unit)->Option (kx×Int×Unit):=λ(b,a,_)=>(zD (some b,a,a,a,())).bind λ(e,_)=>(wm (e,())).bind λ(aK,_)=>(bif !aK then some (b,233,()) else(ob (e,())).bind λ(p,_)=>bif decide (p<=0) then some (b,231,()) else(wv (e,0,())).bind λ(f,_)=>(ws (f,())).bind λ(q,_)=>bif q==0 then some (b,231,()) else(DM (b,a,a,f,())).bind λ(h,r,_)=>bif !r then some (h,233,()) else((loop (σ:=(Int×kx×Unit)) (ρ:=((kx×Unit)⊕(kx×Int×Unit))) (λ(d,c,_)=>cond (decide (d<c.1.1)) ((zD (some c,d,a,a,())).bind λ(l,_)=>(mi (f,())).bind λ(m,_)=>(wu (l,m,0,())).bind λ(n,_)=>(DM (c,d,a,n,())).bind λ(g,o,_)=>cond (!o) (some (.inr (.inr (g,233,())))) (some (.inl (aQ d,g,())))) (some (.inr (.inl (c,()))))) (aQ a,h,())).bind λj=>match j with
 |.inl (i,_)=>(some (i,0,()))
 |.inr k=>some k))
def IB:(Option kx×Int×Unit)->Option lC:=λ(k,a,_)=>k.bind λb=>(dI (aq (aq (b.1.1-a)*aq (b.1.1-a))) (aq (aq (b.1.1-a)*aq (b.1.1-a)))).bind λr=>(loop (σ:=kX) (ρ:=(iP⊕lC)) (λ(d,n,j,_)=>bif decide (d<aq (b.1.1-a)) then((loop (σ:=kX) (ρ:=(iP⊕(kX⊕(iP⊕lC)))) (λ(f,o,c,_)=>bif decide (f<aq (b.1.1-a)) then(zD (k,aq (a+f),aq (a+d),a,())).bind λ(i,_)=>(wm (i,())).bind λ(s,_)=>bif !s then some (.inr (.inr (.inr (.inr (((0:Int),((0:Int),(([]:ew),()))),233,()))))) else(bk (c.2.2.1).length (aq (aq (d*aq (b.1.1-a))+f))).bind λl=>((((bd c.2.2.1 l λ_=>some ((c.2.2.1).set l i)).map λv=>(v,c.2.2.2)).map λw=>(c.2.1,w)).map λx=>(c.1,x)).bind λe=>(o6 (i,())).bind λ(t,_)=>(bk (e.2.2.1).length (aq (aq (f*aq (b.1.1-a))+d))).bind λm=>((((bd e.2.2.1 m λ_=>some ((e.2.2.1).set m t)).map λy=>(y,e.2.2.2)).map λz=>(e.2.1,z)).map λA=>(e.1,A)).bind λB=>
 some (.inl (aQ f,o,B,())) else some (.inr (.inl (o,c,())))) (d,n,j,())).bind λg=>match g with
 |.inl (u,p,_)=>(some (.inl (aQ d,u,p,())))
 |.inr h=>some h) else some (.inr (.inl (n,j,())))) (0,((0:Int),((0:Int),([],()))),(aq (b.1.1-a),(aq (b.1.1-a),(List.replicate r (false,((false,([],())),((0:Int),()))),()))),())).bind λg=>match g with
 |.inl (_,q,_)=>(some (q,0,()))
 |.inr h=>some h
def Iz:(dh×Int×Int×Unit)->Option (gR×dh×Int×Int×Unit):=λ(b,a,e,_)=>(zC (b,())).bind λ(k,_)=>Option.bind (α:=(Int×dh×gR×dh×Unit)) (cond (k !=0) (some (k,b,((0:Int),((0:Int),([],()))),((0:Int),((0:Int),([],()))),())) (Option.bind (α:=(Bool×dh×gR×dh×Unit)) (cond ((b.1 !=b.2.1)==false) (cond (decide (a<0)==false) (some (decide (a>b.1),b,((0:Int),((0:Int),([],()))),((0:Int),((0:Int),([],()))),())) (some (true,b,((0:Int),((0:Int),([],()))),((0:Int),((0:Int),([],()))),()))) (some (true,b,((0:Int),((0:Int),([],()))),((0:Int),((0:Int),([],()))),()))) λ(B,h,l,m,_)=>cond B (some (5,h,l,m,())) (cond (decide (e<1)) (some (230,h,l,m,())) (some (k,h,l,m,()))))) λ(n,d,C,D,_)=>(bif n !=0 then some (((0:Int),((0:Int),(([]:aM),()))),((0:Int),((0:Int),(([]:ew),()))),0,n,()) else(
 (dI (aq (d.1*a)) (aq (d.1*a))).bind λy=>(dI (aq (d.1*a)) (aq (d.1*a))).bind λz=>(loop (σ:=(Int×gR×dh×kx×Unit)) (ρ:=((gR×dh×kx×Unit)⊕(gR×dh×Int×Int×Unit))) (λ(c,s,t,o,_)=>bif decide (c<a) then((loop (σ:=(Int×gR×dh×kx×Unit)) (ρ:=((gR×dh×kx×Unit)⊕((Int×gR×dh×kx×Unit)⊕((gR×dh×kx×Unit)⊕(gR×dh×Int×Int×Unit))))) (λ(f,u,v,p,_)=>cond (decide (f<aq (c+(if(aq (a-c))<e then aq (a-c) else e)))) ((IA (p,f,())).bind λ(x,g,_)=>cond (g==0) (some (.inl (aQ f,u,v,x,()))) (cond (g==231) (some (.inr (.inr (.inr (.inr (((0:Int),((0:Int),(([]:aM),()))),((0:Int),((0:Int),(([]:ew),()))),f,g,())))))) (some (.inr (.inr (.inr (.inr (((0:Int),((0:Int),(([]:aM),()))),((0:Int),((0:Int),(([]:ew),()))),0,g,())))))))) (some (.inr (.inl (u,v,p,()))))) (c,s,t,o,())).bind λi=>match i with
 |.inl (E,F,w,_)=>(some (.inl (aq (c+(if(aq (a-c))<e then aq (a-c) else e)),E,F,w,())))
 |.inr j=>some j) else some (.inr (.inl (s,t,o,())))) (0,C,D,(d,((d.1,(a,(List.replicate y (0:Int),()))),(List.replicate z (false,((false,([],())),((0:Int),()))),()))),())).bind λi=>match i with
 |.inl (_,_,q,_)=>((IB (some q,a,())).bind λ(A,r,_)=>cond (r !=0) (some (((0:Int),((0:Int),(([]:aM),()))),((0:Int),((0:Int),(([]:ew),()))),0,r,())) (some (q.2.1,A,a,0,())))
 |.inr j=>some j))
def Ix:(g0×(Int×(Int×(aM×a8)))×gR×Unit)->Option (g0×Unit):=λ(k,c,h,_)=>(loop (σ:=(Int×g0×Unit)) (ρ:=(g0×Unit)) (λ(b,e,_)=>cond (decide (b<c.2.1)) ((ax e.1 b).bind λj=>(loop (σ:=(Int×g0×Unit)) (ρ:=(g0×Unit)) (λ(f,a,_)=>cond (decide (f<ar j)) ((ax j f).bind λs=>(DY (c.2.2.1,s,())).bind λ(p,_)=>(bk (a.2.1).length b).bind λg=>(ax h.2.2.1 (aq (aq (aq (b-c.1)*h.1)+p))).bind λi=>(bd a.2.1 g λn=>some n).bind λq=>(bJ (q.length+([i]).length)).bind λ_=>(bk (a.2.1).length b).bind λd=>cond (Nat.beq g d&&true) ((bd a.2.1 d λo=>some o).bind λr=>(((bd a.2.1 d λ_=>some ((a.2.1).set d (r++[i]))).map λt=>(t,a.2.2)).map λu=>(a.1,u)).bind λv=>some (.inl (aQ f,v,()))) none) (some (.inr (a,())))) (0,e,())).bind λ(l,_)=>some (.inl (aQ b,l,()))) (some (.inr (e,())))) (c.1,k,())).bind λ(m,_)=>
 some (m,())
def o3:(b0×aM×mW×Unit)->Option md:=λ(z,r,c,_)=>(ph (z,r,())).bind λ(j,s,_)=>(bif s !=0 then some ((([]:aM),(([]:aM),(([]:aM),(([]:aM),())))),0,s,()) else j.bind λZ=>(sc (Z.2.1,c,())).bind λ(t,_)=>bif t !=0 then some ((([]:aM),(([]:aM),(([]:aM),(([]:aM),())))),0,t,()) else((loop (σ:=(Int×dq×Unit)) (ρ:=((dq×Unit)⊕md)) (λ(l,w,_)=>cond (decide (l<ar c)) ((ax c l).bind λad=>cond (decide (ar ad.2.2.1>64)) (some (.inr (.inr ((([]:aM),(([]:aM),(([]:aM),(([]:aM),())))),0,6,())))) (some (.inl (aQ l,w,())))) (some (.inr (.inl (w,()))))) (0,([],([],([],([],())))),())).bind λe=>match e with
 |.inl (T,_)=>((wg (j,())).bind λ(N,_)=>(dI (ar c) (ar c)).bind λL=>(dI (ar c) (ar c)).bind λM=>(loop (σ:=(Int×dq×g0×List mW×List (List dh)×Unit)) (ρ:=((dq×g0×Unit)⊕md)) (λ(g,m,n,b,d,_)=>bif decide (g<ar c) then(Option.bind (α:=(dq×g0×List mW×List (List dh)×Unit)⊕((Int×dq×g0×List mW×List (List dh)×Unit)⊕((dq×g0×Unit)⊕md))) ((ax c g).bind λa=>(bk b.length g).bind λJ=>(bk d.length g).bind λK=>(bd b J λD=>some D).bind λx=>(bd d K λE=>some E).bind λy=>(IE (j,a,x,y,())).bind λ(O,u,_)=>bif u !=0 then some (.inr (.inr (.inr ((([]:aM),(([]:aM),(([]:aM),(([]:aM),())))),0,u,())))) else(Iz (O,aq (a.2.1-a.1),8,())).bind λ(P,v,Q,k,_)=>bif k==231 then some (.inr (.inr (.inr ((([]:aM),(([]:aM),(([]:aM),(([]:aM),())))),aq (a.1+Q),k,())))) else bif k !=0 then
 some (.inr (.inr (.inr ((([]:aM),(([]:aM),(([]:aM),(([]:aM),())))),0,k,())))) else(Ix (n,a,P,())).bind λ(q,_)=>cond (decide (a.2.2.2.1>=0)) ((bk b.length a.2.2.2.1).bind λo=>(bd b o λF=>some F).bind λV=>(bJ (V.length+([a]).length)).bind λ_=>(bk d.length a.2.2.2.1).bind λp=>(bd d p λG=>some G).bind λW=>(bJ (W.length+([v]).length)).bind λ_=>(bk b.length a.2.2.2.1).bind λh=>cond (Nat.beq o h&&true) ((bd b h λH=>some H).bind λX=>(bd b h λ_=>some (b.set h (X++[a]))).bind λan=>(bk d.length a.2.2.2.1).bind λi=>cond (Nat.beq p i&&true) ((bd d i λI=>some I).bind λY=>(bd d i λ_=>some (d.set i (Y++[v]))).bind λap=>some (.inl (m,q,an,ap,()))) none) none) (some (.inl (m,q,b,d,())))) λe=>match e with
 |.inl (U,A,C,S,_)=>(some (.inl (aQ g,U,A,C,S,())))
 |.inr f=>some f) else some (.inr (.inl (m,n,())))) (0,T,N,List.replicate L [],List.replicate M [],())).bind λe=>match e with
 |.inl (_,B,_)=>((wh (some B,r,())).bind λ(R,_)=>j.bind λam=>some (R,am.1,0,()))
 |.inr f=>some f)
 |.inr f=>some f))
def uC:(b0×aM×mW×Unit)->Option a8:=λ(c,d,b,_)=>(uD (c,d,())).bind λ(aK,_)=>(bif aK !=0 then some (aK,()) else(w8 (c,d,())).bind λ(h,_)=>(r9 (h,b,())).bind λ(e,_)=>bif e !=0 then some (e,()) else((loop (σ:=a8) (ρ:=hI) (λ(a,_)=>cond (decide (a<ar b)) ((ax b a).bind λi=>cond (decide (ar i.2.2.1>64)) (some (.inr (.inr (6,())))) (some (.inl (aQ a,())))) (some (.inr (.inl ())))) (0,())).bind λf=>match f with
 |.inl _=>(some (0,()))
 |.inr g=>some g))
def qw:(b0×aM×mW×Unit)->Option md:=λ(a,b,c,_)=>(uC (a,b,c,())).bind λ(aK,_)=>(cond (aK !=0) (some ((([]:aM),(([]:aM),(([]:aM),(([]:aM),())))),0,aK,())) ((qx (a,b,())).bind λ(d,e,f,_)=>some (d,e,f,())))
def D5:(aM×Int×Int×Int×Int×Unit)->Option dH:=λ(i,R,j,e,U,_)=>(mj (R,4,())).bind λ(J,_)=>(mj (j,4,())).bind λ(Q,_)=>(Ap (i,J,Q,U,())).bind λ(h,_)=>Option.bind (α:=ky) (Option.bind (α:=(Bool×b0×Unit)) (cond (decide (ar h.2.2.2.1>0)==true) ((fS e 3).bind λX=>some ((X==0),h,())) (some (false,h,()))) λ(S,a,_)=>cond S ((mj (e,ar a.2.2.2.1,())).bind λ(m,_)=>rd a.2.2.2.1 m λV=>(mj (e,3,())).bind λ(n,_)=>(bk (a.2.2.2.1).length m).bind λk=>(((((bd a.2.2.2.1 k λ_=>some ((a.2.2.2.1).set k (aq (V+aq (n-1))))).map λY=>(Y,a.2.2.2.2)).map λZ=>(a.2.2.1,Z)).map λad=>(a.2.1,ad)).map λam=>(a.1,am)).bind λan=>some (an,())) (some (a,()))) λ(f,_)=>Option.bind (α:=ky) (Option.bind (α:=(Bool×b0×Unit)) (bif decide (ar f.2.2.2.2.1>0)==true then(fS e 5).bind λW=>
 some ((W==0),f,()) else some (false,f,())) λ(T,b,_)=>cond T ((mj (e,ar b.2.2.2.2.1,())).bind λ(o,_)=>(us (i,9,())).bind λ(p,_)=>(bk (b.2.2.2.2.1).length o).bind λl=>((((((bd b.2.2.2.2.1 l λ_=>some ((b.2.2.2.2.1).set l p)).map λap=>(ap,b.2.2.2.2.2)).map λav=>(b.2.2.2.1,av)).map λa0=>(b.2.2.1,a0)).map λa3=>(b.2.1,a3)).map λa4=>(b.1,a4)).bind λbl=>some (bl,())) (some (b,()))) λ(c,_)=>(mj (j,4,())).bind λ(q,_)=>(Ar (i,q,())).bind λ(d,_)=>(o4 (c,d,())).bind λ(r,s,t,_)=>(qx (c,d,())).bind λ(g,u,v,_)=>(o3 (c,d,[],())).bind λ(w,x,y,_)=>(qw (c,d,[],())).bind λ(z,A,B,_)=>(o5 (c,d,())).bind λ(C,D,_)=>(pg (c,d,())).bind λ(E,F,_)=>(rU (c,g,())).bind λ(G,H,_)=>(sb (c,g,())).bind λ(I,K,_)=>
 (cond ((t==v)==true) (cond ((s==u)==true) ((wJ (r,g,())).bind λ(L,_)=>cond (L==true) (cond ((y==B)==true) (cond ((x==A)==true) ((wJ (w,z,())).bind λ(M,_)=>cond (M==true) (cond ((D==F)==true) ((ur (C,E,())).bind λ(N,_)=>cond (N==true) (cond ((H==K)==true) ((r5 (G,I,())).bind λ(O,_)=>cond (O==true) ((Au ()).bind λ(P,_)=>some (P,())) (some (false,()))) (some (false,()))) (some (false,()))) (some (false,()))) (some (false,()))) (some (false,()))) (some (false,()))) (some (false,()))) (some (false,()))) (some (false,())))
end Go.ia
section
namespace Go.Proofs
open Go.RowKit Go.Shelf Go.Sort
attribute [local go_sem] Oper.semAt_some
def Tryz.Sq:Go.Shelf.Ren:=⟨λ|20=>275|n=>n,λ|22=>23|3=>3|4=>4|0=>0|n=>n,λ|n=>n⟩
def Tryz.J0:Lays2.n20 Tryz.prog Tryz.Sq where
 mixed:=by kernel_rfl
 f20:=Tryz.func275.trans (congrArg some (by kernel_rfl))
 t0:=Tryz.underlying0
 a0:=Tryz.isAgg0
 z0:=Tryz.sizeOf0
 v0:=Tryz.zeroValue0
 t3:=Tryz.underlying3
 a3:=Tryz.isAgg3
 z3:=Tryz.sizeOf3
 v3:=Tryz.zeroValue3
 t4:=Tryz.underlying4
 a4:=Tryz.isAgg4
 z4:=Tryz.sizeOf4
 v4:=Tryz.zeroValue4
 t22:=Tryz.underlying23
 a22:=Tryz.isAgg23
 z22:=Tryz.sizeOf23
 v22:=Tryz.zeroValue23
 i3:=by kernel_rfl
namespace Hl
def kL {a:Type} (b:Nat->a) (c:Nat):List a:=(List.range c).map b
def NB {c:Type} (a:Nat->c) (b:Nat):kL a (b+1)=kL a b++[a b]:=by simp[kL,kV]
def Y0 {c:Type} (b:Nat->c) (a:Nat):(kL b a).length=a:=by simp[kL]
def YZ (a:ac8):kL (λc=>a[c]?.getD 0) a.length=a:=by
 apply List.ext_getElem
 ·simp[kL]
 intro e d b;simp[kL,b]
set_option maxRecDepth 100000 in
set_option maxHeartbeats 2000000 in
def Y9 (j:Fence) (m:Nat) (A:j.fn 290) (K:j.round=none) (T:1<=m) (v q n h k b x:Nat) (g:ac8) (V:b*8<=140737488351232) (F:h<n) (J r:ac8->World->Prop) (E:∀e o c,J e c->e.length<b->YieldAt j (m-1) Tryz.prog v #[.int .i64 o] c λi f=>
  (i=.returned (.bool true)/\J (e++[o]) f/\Below n c f)\/(i=.returned (.bool false)/\r (e++[o]) f))
 (c:World) (Q:c.cell? ⟨q,0,none⟩=some (.slice (some ⟨h,k,none⟩) b x)) (G:∀d,d<b->c.cell? ⟨h,k+d,none⟩=some (.int .i64 (g[d]?.getD 0))) (z:J [] c):
 CallsIn j m Tryz.prog 290 #[.func (.yield v) #[] #[],.pointer (some ⟨q,0,none⟩)] c λi f=>(∃L,i=.returned L)/\((∃w,w=kL (λd=>g[d]?.getD 0) b/\J w f)\/(∃e,(∃a,a<=b/\e=kL (λd=>g[d]?.getD 0) a)/\r e f)):=by
 refine callsIn_of_wp Tryz.func290 rfl A ?_ K;simp only[Tryz.ntmps290,p6,hX,oS,Nat.reduceAdd,Nat.reduceSub,tn,tp,tD,tx,fi,jc]
 gi_wp2
 gi_loopw [7] (λl wr=>∃a:Nat,a<=b/\l=.int .i64 a/\J (kL (λd=>g[d]?.getD 0) a) wr/\Below n c wr) (λl _=>b-(intOf l).toNat)
 case atStart=>exact⟨0,bM _,rfl,z,Below.refl _ _⟩
 case round=>
  obtain⟨a,S,rfl,s,u⟩:=hrel;have H:a<b->wr.cell? ⟨h,k+a,none⟩=some (.int .i64 (g[a]?.getD 0)):=λy=>(u.cell (p:=⟨h,k+a,none⟩) F).trans (G a y);by_cases t:a<b
  ·obtain⟨P,X,N,O,W,D⟩:=E _ (g[a]?.getD 0) wr s (by rw[Y0];exact t);have R:=H t
   gi_wp2
   refine D.mono ?_;rintro i M (⟨rfl,B,I⟩|⟨rfl,C⟩)
   ·gi_wp2
    go_roundw
    case rel=>exact⟨a+1,U,ab,by rw[NB];exact B,u.trans I⟩
    case measure=>simp[intOf];omega
   gi_wp2
   refine bodyPost_ret (results_none rfl _ _ _) rfl ?_;exact⟨⟨_,rfl⟩,.inr ⟨_,⟨a+1,U,(NB _ _).symm⟩,C⟩⟩
  obtain rfl:a=b:=by omega
  gi_wp2
  go_end0
  exact⟨⟨_,rfl⟩,.inl ⟨_,rfl,s⟩⟩
def Y1 (a:ac8) {b:Nat} (d:b<=a.length):kL (λf=>a[f]?.getD 0) b=a.take b:=by
 apply List.ext_getElem
 ·simp[kL,d]
 intro e c g;have:e<a.length:=(by simp[kL] at c;omega);simp[kL,this]
def nK (i:Nat) (g:World) (f:Value) (a:ac8):Prop:=
 (∃h c,f=.slice h 0 c/\a=[])\/∃b e c,f=.slice (some ⟨b,e,none⟩) a.length c/\b<i/\∀d,d<a.length->g.cell? ⟨b,e+d,none⟩=some (.int .i64 (a[d]?.getD 0))
def nK.below {b:Nat} {c d:World} (l:Below b c d) {i:Value} {j:ac8}:nK b c i j->nK b d i j
 |.inl a=>.inl a
 |.inr ⟨e,h,k,a,f,m⟩=>.inr ⟨e,h,k,a,f,λg n=>(l.cell (p:=⟨e,h+g,none⟩) f).trans (m g n)⟩
set_option maxRecDepth 100000 in
set_option maxHeartbeats 1000000 in
def Za (a:Fence) (n:Nat) (i:a.fn 290) (k:a.round=none) (m c:Nat) (e:Option Addr) (f:Nat) (J:ac8->World->Prop) (b:World) (p:b.cell? ⟨c,0,none⟩=some (.slice e 0 f)) (h:J [] b):CallsIn a n Tryz.prog 290 #[.func (.yield m) #[] #[],.pointer (some ⟨c,0,none⟩)] b λg d=>(∃o,g=.returned o)/\J [] d:=by
 refine callsIn_of_wp Tryz.func290 rfl i ?_ k;simp only[Tryz.ntmps290,p6,hX,oS,Nat.reduceAdd,Nat.reduceSub,tn,tp,tD,tx,fi,jc]
 gi_wp2
 gi_loopw [7] (λl wr=>l=.int .i64 0/\J [] wr) (λ_ _=>0)
 case atStart=>exact⟨rfl,h⟩
 case round=>
  obtain⟨rfl,j⟩:=hrel
  gi_wp2
  go_end0
  exact⟨⟨_,rfl⟩,j⟩
set_option maxHeartbeats 1000000 in
def Zb (a:Fence) (i:Nat) (g:a.fn 277) (h:a.round=none) (c:Option Addr) (e d:Nat) (b:World):CallsIn a i Tryz.prog 277 #[.slice c e d] b λf j=>f=.returned (.func (.func 290) #[] #[.pointer (some ⟨b.heap.size,0,none⟩)])/\j=b.alloc (.cells #[.slice c e d] 23):=by
 refine callsIn_of_wp Tryz.func277 rfl g ?_ h;simp only[Tryz.ntmps277,p6,hX,oS,Nat.reduceAdd,Nat.reduceSub,tn,tp,tD,tx,fi,jc]
 gi_wp2
 go_ret
 exact⟨rfl,rfl⟩
def Zc (c:Fence) (g:Nat) (l:c.fn 290) (o:c.round=none) (G:1<=g) (b h:Nat) (s:Value) (a:ac8) (I:a.length*8<=140737488351232) (e:World) (z:b<e.heap.size) (H:h<=e.heap.size) (D:e.cell? ⟨b,0,none⟩=some s) (A:nK h e s a):SeqStopsK c g Tryz.prog 290 #[.pointer (some ⟨b,0,none⟩)] (λL:Int=>#[Value.int .i64 L]) (Below h) (λt=>t=a) (λr=>r<+:a) a.length e:=λq J u j m _ _ B k=>by
 have n:=(m.cell (p:=⟨b,0,none⟩) z).trans D;rcases A.below (m.mono H) with⟨w,i,rfl,rfl⟩|⟨x,K,i,rfl,C,E⟩
 ·exact(Za c g l o q b w i J j n k).mono λy v ⟨f,d⟩=>⟨f,.inl ⟨_,rfl,d⟩⟩
 refine(Y9 c g l o G q b h x K a.length i a I C J u B j n E k).mono ?_;rintro y v ⟨f,⟨t,rfl,d⟩|⟨r,⟨M,F,rfl⟩,d⟩⟩
 ·exact⟨f,.inl ⟨_,YZ a,d⟩⟩
 exact⟨f,.inr ⟨_,by rw[Y1 a F];exact List.take_prefix _ _,d⟩⟩
def RW:(Tryz.prog.info? 3).map (λa=>(a.zero,a.size,a.bytes))=some (some (.int .i64 0),1,8):=by kernel_rfl
set_option maxRecDepth 100000 in
set_option maxHeartbeats 2000000 in
def Pc (g:Fence) (m:Nat) (E:g.fn 299) (u:g.fn 290) (q:g.round=none) (av:3<=m) (e:Nat) (r:Value) (f:ac8) (M:f.length*8<=140737488351232) (a:World) (F:e<a.heap.size) (o:a.cell? ⟨e,0,none⟩=some r) (H:nK a.heap.size a r f):CallsIn g m Tryz.prog 299 #[.slice none 0 0,.func (.func 290) #[] #[.pointer (some ⟨e,0,none⟩)]] a λB t=>∃b,B=.returned b/\t.ownsRow a.heap.size 3 1 b f.length (f.map (Value.int .i64))/\(b=.slice none 0 0↔f=[])/\Below a.heap.size a t:=by
 have D:1<=m:=U;obtain⟨S,J,P,Q,R⟩:=info_parts RW;refine callsIn_of_wp_marks Tryz.func299 rfl E ?_ q;simp only[Tryz.ntmps299,p6,hX,oS,Nat.reduceAdd,Nat.reduceSub,tn,tp,tD,tx,fi,jc]
 gi_wp2
 have A:=Boxed.new a 23 (.slice none 0 0);have n:Below a.heap.size a (a.alloc (.cells #[.slice none 0 0] 23)):=(Below.refl _ a).alloc (a6 _) _;refine wpIn_rangeFunc_ownG q D (gf:=290) (lb:=#[.pointer (some ⟨e,0,none⟩)]) rfl u (enters_of Tryz.func290 (by kernel_rfl) rfl) (Zc g (m-1) u q U e a.heap.size r f M _ (by simp;omega) ab ((n.cell (p:=⟨e,0,none⟩) F).trans o) (H.below n)) belowK_t (belowK_b ab) (Below.refl _ _) (λ_=>rfl) (λc d=>(∃b,Boxed d a.heap.size 23 b/\d.ownsRow a.heap.size 3 1 b c.length (c.map (Value.int .i64))/\(b=.slice none 0 0↔c=[]))/\Below a.heap.size a d) (λ_ _ _=>False) (OwnFrom.and (Own.from (holdsRow_own a.heap.size a.heap.size 23 3 1 (λc=>c.length) (λc=>c.map (Value.int .i64)) (λc b=>b=.slice none 0 0↔c=[])) _) (ownFrom_below (a6 _) ab)) (λ_ _ _ _ _ N _ _=>N) ⟨⟨_,A,World.ownsRow_nil _ _ _ _,ab⟩,n⟩ (λj=>{tmps:=#[.slice none 0 0,.func (.func 290) #[] #[.pointer (some ⟨e,0,none⟩)],.pointer (some ⟨a.heap.size,0,none⟩),undef,.slice none 0 0,.int .i64 j,.func (.func 290) #[] #[.pointer (some ⟨e,0,none⟩)],.int .i64 j,undef,undef,undef,undef,undef],defers:=[]}) ?assign ?body ?done ?stop
 case assign=>
  intro T j d V i
  gi_wp2
  exact i
 case body=>
  rintro T c j d ⟨⟨b,l,k,x⟩,h⟩ ap;have o:=l.cell;have an:f.length<=maxLen:=(by simp only[maxLen];omega);have Z:f.length*8<=140737488355328:=by omega
  gi_wp2_with (gi_at_builtin;refine wpListIn_append_own _ rfl _ _ 23 rfl a.heap.size 3 S (.int .i64 0) 1 8 Tryz.underlying23 J P Q R rfl aa _ _ _ rfl (k.alloc _) ⟨d.heap.size,0,none⟩ 1 1 [.int .i64 j] rfl rfl (cell_one_new _ _ _) (by simp[Value.oneCell']) U U (by have:=h.size;simp;omega) ?_;intro a0 a3 y I _;obtain⟨Y,X,rfl⟩:=ownsRow_succ y;obtain⟨z,O,L,K,v⟩:=l.appended aa k h.size (a6 _) y I;have ad:=z.cell;have am:=z.frozen)
  exact⟨K.from _,v,⟨_,O,by simpa using L,ab⟩,h.trans v⟩
 case done=>
  rintro s a4 d G rfl ⟨⟨b,l,k,x⟩,h⟩ i;have o:=l.cell
  gi_wp2
  refine⟨ab,.inl ⟨_,_,rfl,run_takeDeferred i,?_⟩⟩;exact⟨_,results_tmp rfl _ _ _,b,rfl,ownsRow_putObj k _ i rfl,x,h.trans (belowK_b (w:=a) (a6 _) d s _ _ (by simp at G;omega) i rfl rfl)⟩
 case stop=>
  rintro s W c d _ _ C _;exact C.elim
set_option maxHeartbeats 1000000 in
def P0 (b:Fence) (f:Nat) (m:b.fn 288) (k:b.fn 299) (l:b.fn 290) (j:b.round=none) (v:4<=f) (e:Nat) (g:Value) (c:ac8) (s:c.length*8<=140737488351232) (a:World) (n:e<a.heap.size) (q:a.cell? ⟨e,0,none⟩=some g) (o:nK a.heap.size a g c):CallsIn b f Tryz.prog 288 #[.func (.func 290) #[] #[.pointer (some ⟨e,0,none⟩)]] a λi h=>∃d,i=.returned d/\h.ownsRow a.heap.size 3 1 d c.length (c.map (Value.int .i64))/\(d=.slice none 0 0↔c=[])/\Below a.heap.size a h:=by
 have u:1<=f:=U;refine callsIn_of_wp Tryz.func288 rfl m ?_ j;simp only[Tryz.ntmps288,p6,hX,oS,Nat.reduceAdd,Nat.reduceSub,tn,tp,tD,tx,fi,jc]
 gi_wp2_with (gi_at_call 299;refine(Pc b (f-1) k l j U e g c s _ n q o).mono ?_;rintro i w ⟨d,rfl,t,r,p⟩)
 go_ret
 exact⟨d,rfl,t,r,p⟩
open Go.ia
def Xg {M:c5->Nat->Prop} {f:World} {k:Nat} {j:Value} {b:ac8} (s:f.ownsRow k 3 1 j b.length (b.map (Value.int .i64))):∃d,aP M f (.osl (.int .i64)) [j] b d/\d.Nodup/\∀h∈d,k<=h/\h<f.heap.size:=by
 rcases s.2 with⟨rfl,t⟩|⟨e,l,i,rfl,w,q,u,A,v,m⟩
 ·obtain rfl:=lm t;exact⟨[],⟨none,0,rfl,.inl ⟨rfl,rfl,rfl,rfl⟩⟩,ab,ab⟩
 rw[Nat.mul_one] at v m;have o:∀a,a<l->f.cell? ⟨e,a,none⟩=some (i[a]?.getD undef)/\f.frozen? ⟨e,a,none⟩=false:=λa c=>(by constructor<;>simp[World.cell?,World.frozen?,q,(U:a<i.size)]);refine⟨[e],⟨some ⟨e,0,none⟩,l,rfl,.inr ⟨e,0,List.replicate b.length [],rfl,ab,ab,u,λa _ c=>?_,λg z d r p=>?_⟩⟩,ab,λh n=>?_⟩
 ·obtain⟨aw,y⟩:=o a (by simpa[ai.size] using c);exact⟨by rw[aw];rfl,y⟩
 ·have x:g<b.length:=(ec.1 r).1;obtain rfl:d=[]:=by
   rw[lr] at p;split at p<;>simp_all
  refine⟨[.int .i64 z],rfl,λa j c=>?_,rfl,rfl⟩;cases a with
  |succ a=>simp at c
  |zero=>
   simp only[iI,bF] at c;subst c;simp only[ai.size,Nat.mul_one,hE,kv];rw[(o g U).1];have:(i.toList.take b.length)[g]?=(b.map (Value.int .i64))[g]?:=(by rw[m]);rw[kT x,tm,eT,r] at this;rw[this];rfl
 simp only[ed] at n;subst n;exact⟨w,(lY.1 q).1⟩
def RP {o:c5->Nat->Prop} {n:World} {i:Value} {a:ac8} {k:ac7} (g:aP o n (.osl (.int .i64)) [i] a k):(∃j b,i=.slice j 0 b/\a=[])\/∃c e b,i=.slice (some ⟨c,e,none⟩) a.length b/\a.length<=b/\Holds (Value.int .i64) n c e a.toArray/\k=[c]:=by
 obtain⟨j,b,m,g⟩:=g;simp only[fJ,and_true] at m;subst m;rcases g with⟨rfl,rfl,rfl,rfl⟩|⟨c,e,f,rfl,rfl,A,s,t,l⟩
 ·exact .inl ⟨none,0,rfl,rfl⟩
 right;have u:f.flatten=[]:=by
  rw[List.flatten_eq_nil_iff];intro C x;obtain⟨h,B,rfl⟩:=gD.1 x;obtain⟨r,_,_,y⟩:=l h (a[h]'(by omega)) f[h] ab ab
  exact y.1
 refine⟨c,e,b,rfl,s,λd v=>?_,by rw[u]⟩;have w:d<a.length:=(by simpa using v);obtain⟨r,z,p,_,q⟩:=l d a[d] (f[d]'(by omega)) ab ab
 subst q;have aw:=p 0 _ rfl;simp only[ai.size,Nat.mul_one,kv] at aw;exact⟨by rw[aw];simp[w],(t (e+d) U (by simp only[ai.size];omega)).2⟩
def De (E:dR) (c:ac8->acT):Prop:=∀b a,c b=some a->pW E 289 [.m ⟨.osl (.int .i64),b⟩ a] []
set_option maxRecDepth 100000 in
set_option maxHeartbeats 2000000 in
def Ya (i:Fence) (h:∀e,i.fn e) (z:i.round=none) (O:∀(ad:Nat) (e:FuncId) (v:acZ) (c:World) (t:Ending->World->Prop),Calls Tryz.prog e v c t->CallsIn i ad Tryz.prog e v c t) {E:dR} (I:E.P=Tryz.prog) {C:ac8->acT} (Y:De E C) (k:Nat) (a0:5<=k) (m:Nat) (r:Value) (l s:ac8) (Z:C l=some s) (W:l.length*8<=140737488351232) (c:World) (J:jy E (λb=>b<c.heap.size) c) (H:m<c.heap.size) (N:c.cell? ⟨m,0,none⟩=some r) (K:nK c.heap.size c r l):CallsIn i k Tryz.prog 276 #[.func (.func 290) #[] #[.pointer (some ⟨m,0,none⟩)]] c λp u=>∃g e D,p=.returned g/\aP D u (.osl (.int .i64)) [g] s e/\(∀b∈e,c.heap.size<=b)/\Below c.heap.size c u:=by
 have av:1<=k:=U;have a3:=h 288;have a4:=h 289;refine callsIn_of_wp Tryz.func276 rfl (h _) ?_ z;simp only[Tryz.ntmps276,p6,hX,oS,Nat.reduceAdd,Nat.reduceSub,tn,tp,tD,tx,fi,jc]
 gi_wp2_with (first
  |(
   gi_at_call 288;refine(P0 i (k-1) (h _) (h _) (h _) z U m r l W _ H N K).mono ?_;rintro p F ⟨g,rfl,A,T,d⟩
   obtain⟨e,V,S,o⟩:=Xg (M:=ba (λ_=>False) (λ_=>False)) A;have n:=Y l s Z F (λb=>b<c.heap.size) (λ_=>False) [g] [e] (λb a=>by rcases a with a|a;exact gM a d.size;exact a.elim) ⟨⟨[g],rfl,V⟩,trivial⟩ (by simpa using S) (λb d=>⟨Nat.not_lt.2 (o b (by simpa using d)).1,λa=>a,(o b (by simpa using d)).2⟩) True.intro (J.mono (λ_ a=>a) λb a=>d.block b a);rw[I] at n;have n:=O (k-1) _ _ _ _ n;clear A T)
  |(gi_at_call 289;refine n.mono ?_;rintro p an ⟨am,w,bl,B,rfl,f⟩))
 have Q:∃j,w=[j]:=by
  have:=f.args
  match w,this with
  |[j],_=>exact⟨j,rfl⟩
  |[],a=>exact a.elim
  |_::_::_,a=>exact a.2.elim
 obtain⟨j,rfl⟩:=Q;obtain⟨ap,al,y⟩:=f.args.1;have R:=y.len;obtain⟨G,rfl⟩:=tB.1 R;have al:g=G:=al;subst al;have X:B=[]:=by
  have:=f.res
  match B,this with
  |[],_=>rfl
  |_::_,a=>exact a.elim
 subst X
 go_ret
 refine⟨g,j,_,rfl,y,λb L=>?_,?_⟩
 ·have:=(f.H6 b (by simp[L])).2.2.2;rcases this with a|a
  ·exact db d.size a
  exact(o b (by simpa using a)).1
 exact⟨f.os.trans d.os,f.tape.trans d.tape,f.output.trans d.output,db d.size f.size,λq x=>(f.heap q (gM x d.size) (λa=>by have:=(o q (by simpa using a)).1;omega)).trans (d.block q x)⟩
def P6 {j:c5->Nat->Prop} {b:World} {B:Nat} {i:Value} {e:ac8} {h:ac7} (n:aP j b (.osl (.int .i64)) [i] e h) (m:∀c∈h,B<=c) (r:e.length<=1000000):Calls Tryz.prog 275 #[i] b (λf g=>∃d a,f=.returned (.slice d (Lib.compact e).length a)/\Below B b g):=by
 rcases RP n with⟨d,a,rfl,rfl⟩|⟨c,p,a,rfl,l,k,rfl⟩
 ·refine(Any.slices_Compact_int_empty Tryz.J0 d a b).mono ?_;rintro f g ⟨rfl,rfl⟩;exact⟨d,a,rfl,Below.refl _ _⟩
 refine(Any.slices_Compact_int Tryz.J0 c p a e b k U l).mono ?_;rintro f g ⟨rfl,s,rfl⟩;refine⟨_,a,rfl,rfl,rfl,rfl,by simp[putRow,mapBlock,Sort.ahead],λo q=>?_⟩;have:=m c ab;simp[putRow,mapBlock,Sort.ahead,pV,(U:c≠o)]
set_option maxRecDepth 100000 in
set_option maxHeartbeats 2000000 in
def YO (g:Fence) (i:∀k,g.fn k) (p:g.round=none) (t:∀(S:Nat) (k:FuncId) (r:acZ) (a:World) (q:Ending->World->Prop),Calls Tryz.prog k r a q->CallsIn g S Tryz.prog k r a q) {E:dR} (F:E.P=Tryz.prog) {x:ac8->acT} (O:De E x) (j:Nat) (am:7<=j) (c:Option Addr) (b e:Nat) (f m:ac8) (R:x f=some m) (N:f.length=b) (a0:f.length<=1000000) (Q:m.length<=1000000) (a:World) (G:jy E (λd=>d<a.heap.size) a) (H:nK a.heap.size a (.slice c b e) f):CallsIn g j Tryz.prog 249 #[.slice c b e] a λh z=>h=.returned (.bool (decide ((Lib.compact m).length<f.length)))/\Below a.heap.size a z:=by
 have ad:1<=j:=U;have an:=i 277;have ap:=i 276;have av:=i 275;generalize M:(Lib.compact m).length=Z;refine callsIn_of_wp Tryz.func249 rfl (i _) ?_ p;simp only[Tryz.ntmps249,p6,hX,oS,Nat.reduceAdd,Nat.reduceSub,tn,tp,tD,tx,fi,jc];have C:=Boxed.new a 23 (.slice c b e);have n:Below a.heap.size a (a.alloc (.cells #[.slice c b e] 23)):=(Below.refl _ a).alloc (a6 _) _;have I:nK (a.alloc (.cells #[.slice c b e] 23)).heap.size (a.alloc (.cells #[.slice c b e] 23)) (.slice c b e) f:=by
  rcases H.below n with l|⟨d,T,D,h,o,L⟩
  ·exact .inl l
  exact .inr ⟨d,T,D,h,by simp;omega,L⟩
 have w:=Ya g i p t F O (j-1) U a.heap.size (.slice c b e) f m R U _ (G.mono (λd (l:d<a.heap.size)=>gM l n.size) λd l=>n.block d l) ab C.cell I
 gi_wp2_with (first
  |(gi_at_call 277;refine(Zb g (j-1) (i _) p c b e a).mono ?_;rintro h a4 ⟨rfl,rfl⟩)
  |(gi_at_call 276;refine w.mono ?_;rintro h y ⟨a3,k,V,rfl,v,u,o⟩;have s:=t (j-1) _ _ _ _ (P6 (B:=a.heap.size) v (λd J=>by have:=u d J;simp at this;omega) Q);rw[M] at s;have A:Below a.heap.size a y:=n.trans (o.mono ab);clear v u o w)
  |(gi_at_call 275;refine s.mono ?_;rintro h W ⟨X,Y,rfl,K⟩))
 go_ret
 exact⟨by rw[N];rfl,A.trans K⟩
def YL (c:ac8->acT):hV:=⟨249,[.v (.a5 .dd (.int .i64))],[.bool],λa=>(yv c a.1).map λb=>(b,())⟩
def YM {E:dR} (q:E.P=Tryz.prog) {sort:ac8->acT} (K:De E sort):aB E (YL sort):=by
 refine⟨λg f=>by rw[q];exact Tryz.call249 g f,?_⟩;rintro⟨d,_⟩ b c;have w:(yv sort d).map (λb=>(b,()))=some b:=c;obtain⟨B,e,rfl⟩:=dY.1 w;clear c w;unfold yv at e;cases l:Nat.ble d.length 1000000 with
 |false=>rw[l] at e;cases e
 |true=>
 rw[l] at e;obtain⟨s,M,e⟩:=bZ.1 e;cases m:Nat.ble s.length 1000000 with
 |false=>rw[m] at e;cases e
 |true=>
 rw[m] at e;have c:decide ((Lib.compact s).length<d.length)=B:=ee e;subst c;have l:=eM l;have m:=eM m;rintro f t A g k u h Z Y _hself;have h:kz (vz t A f) [.v ⟨.a5 .dd (.int .i64),d⟩] g k:=h;obtain⟨p,j,rfl,rfl⟩:∃p j,g=[p]/\k=[j]:=by
  cases g with
  |nil=>exact h.elim
  |cons p g=>
   cases k with
   |nil=>exact h.elim
   |cons j k=>
    have a:=h.2;cases g with
    |nil=>cases k with
     |nil=>exact⟨p,j,rfl,rfl⟩
     |cons=>exact a.elim
    |cons=>exact a.elim
 obtain⟨⟨rfl,S,rfl,J⟩,_⟩:=h;obtain⟨_,o,i,rfl,X,ad,I⟩:=J;have G:nK f.heap.size f (.slice o d.length i) d:=by
  rcases I with a|⟨b,O,rfl,H,L⟩
  ·exact .inl ⟨o,i,by rw[show d=[] from a];rfl,a⟩
  refine .inr ⟨b,O,i,rfl,u b H,λy x=>?_⟩;obtain⟨V,T,C,_,D⟩:=L y d[y] (by simp[x]);subst D;have z:=C 0 _ rfl;simp only[ai.size,Nat.mul_one,kv] at z;rw[z];simp[x]
 intro F;have a:=YO Fence.wide (λ_=>trivial) rfl (λN j R f Q a=>(callsIn_wide (n:=N)).2 a) q K 10 U o d.length i d s M rfl l m f (F.mono (λb a=>u b (.inl a)) λ_ _=>rfl) G;have a:=callsIn_wide.1 a;show Calls E.P 249 #[.slice o d.length i] f _;rw[q];refine a.mono ?_;rintro W am ⟨rfl,c⟩;refine⟨t,[[]],[[]],[.bool _],rfl,⟨⟨rfl,trivial⟩,⟨⟨[.bool _],rfl,rfl,rfl⟩,trivial⟩,ab,ab,λ_ a=>a,λ_ a=>.inl a,c.size,c.os,c.tape,c.output,λb r=>.of_heap (c.block b r),λb r _=>c.block b r⟩⟩
end Hl
end Go.Proofs
end
namespace Go.ia
variable{a:Nat}{b:ac8}{c:Type}{d:Int}{e:Value}{f:List fu}{g:List ai}{h:World}{i:List ResultVar}{j:c5->Nat->Prop}{k:Func}{l:Nat->Prop}
section
open Go.Proofs
open Tryz
abbrev eh:ai:=(.int .u32)
abbrev dN:ai:=(.a5 .bB eh)
abbrev bx:ai:=(.st (.pr .bool (.pr dN .nil)))
abbrev aC:ai:=(.int .i64)
abbrev bo:ai:=(.st (.pr .bool (.pr bx (.pr aC .nil))))
abbrev h1:ai:=(.osl aC)
abbrev bO:ai:=(.int .u64)
abbrev Hm:ai:=(.pr h1 (.pr h1 (.pr (.osl bO) .nil)))
abbrev dD:ai:=(.a5 .dd aC)
abbrev lz:ai:=(.a5 .dd bO)
abbrev Hn:ai:=(.pr dD (.pr dD (.pr lz .nil)))
abbrev hq:ai:=(.a5 .bB aC)
abbrev Ho:ai:=(.pr hq (.pr hq (.pr (.a5 .bB bO) .nil)))
abbrev y3:ai:=(.osl bo)
abbrev n1:ai:=(.st (.pr aC (.pr aC (.pr y3 .nil))))
abbrev mb:ai:=(.st (.pr aC (.pr aC (.pr dD (.pr aC .nil)))))
abbrev Hq:ai:=(.osl (.osl bO))
abbrev y5:ai:=(.optr (.st (.pr (.a5 .bB hq) (.pr Hq (.pr (.osl (.mp bo)) (.pr (.osl h1) .nil))))))
abbrev nZ:ai:=(.st (.pr aC (.pr aC (.pr (.a5 .bB bo) .nil))))
abbrev ma:ai:=(.st (.pr aC (.pr aC (.pr bO .nil))))
abbrev vV:ai:=(.st (.pr aC (.pr aC (.pr (.osl bO) .nil))))
abbrev vX:ai:=(.st (.pr aC (.pr aC Hm)))
abbrev OK:ai:=(.optr vX)
abbrev kW:ai:=(.st (.pr (.a5 .bB hq) .nil))
abbrev iN:ai:=(.st (.pr (.a5 .dd dD) .nil))
abbrev gX:ai:=(.st (.pr aC (.pr aC Hn)))
abbrev tH:ai:=(.st (.pr hq Ho))
abbrev OL:ai:=(.osl (.st (.pr aC (.pr aC (.pr h1 (.pr aC .nil))))))
abbrev Dh:ai:=(.osl .bool)
abbrev tI:ai:=(.osl Dh)
abbrev vW:ai:=(.st (.pr aC (.pr aC Ho)))
abbrev mV:ai:=(.st (.pr aC (.pr aC (.pr (.a5 .dd bo) .nil))))
abbrev yZ:ai:=(.st (.pr (.osl hq) .nil))
abbrev jG:ai:=(.osl eh)
abbrev n0:ai:=(.st (.pr .bool (.pr bx (.pr aC (.pr .bool .nil)))))
abbrev OM:ai:=(.optr n1)
abbrev y4:ai:=(.st (.pr h1 Hm))
abbrev ON:ai:=(.optr y4)
abbrev OO:ai:=(.optr bo)
abbrev y0:ai:=(.st (.pr aC (.pr aC (.pr (.a5 .bB bO) .nil))))
abbrev OP:ai:=(.ptr .bB bx)
abbrev OQ:ai:=(.optr bx)
abbrev ly:ai:=(.st (.pr dD Hn))
abbrev Df:ai:=(.optr (.st (.pr h1 (.pr h1 .nil))))
abbrev Dg:ai:=(.optr (.st (.pr nZ (.pr vV (.pr y3 .nil)))))
abbrev OR:ai:=(.optr (.st (.pr aC (.pr kW (.pr (.osl (.mp bo)) .nil)))))
abbrev OS:ai:=(.ptr .bB gX)
abbrev oW:ai:=(.osl ma)
abbrev OT:ai:=(.ptr .bB bo)
abbrev vY:ai:=(.ptr .dd (.st (.pr aC (.pr iN (.pr (.a5 .dd (.dB .dd bo)) .nil)))))
abbrev Di:ai:=(.optr (.st (.pr tI (.pr Dh .nil))))
abbrev y1:ai:=(.st (.pr aC (.pr aC (.pr lz .nil))))
abbrev y2:ai:=(.ptr .bB iN)
abbrev Hp:ai:=(.st (.pr aC (.pr aC (.pr hq (.pr hq (.pr (.osl bO) .nil))))))
abbrev OU:ai:=(.optr tH)
abbrev jH:ai:=(.a5 .dd mb)
abbrev OV:ai:=(.optr vV)
abbrev OW:ai:=(.ptr .bB ly)
def tt:List (Nat×ai):=[(3,aC),(4,.bool),(5,(.int .u8)),(9,.str),(22,(.a5 .bB bO)),(23,hq),(25,(.a5 .bB bO)),(27,vW),(31,tH),(39,(.a5 .bB hq)),(41,kW),(50,bO),(51,bO),(55,dN),(57,bx),(59,bo),(62,(.a5 .bB bo)),(71,y0),(75,nZ),(84,(.a5 .bB (.st (.pr aC (.pr aC (.pr hq (.pr aC .nil))))))),(90,(.st (.pr aC (.pr aC (.pr hq (.pr aC .nil)))))),(102,(.a5 .bB (.dB .bB bo))),(104,(.st (.pr aC (.pr kW (.pr (.a5 .bB (.dB .bB bo)) .nil))))),(109,(.a5 .bB (.a5 .bB bO))),(117,(.a5 .bB ma)),(120,ma),(122,(.a5 .bB (.a5 .bB .bool))),(124,(.a5 .bB .bool)),(132,bO),(139,eh),(149,(.a5 .bB (.a5 .bB bo))),(155,(.a5 .bB (.a5 .bB (.st (.pr aC (.pr aC (.pr hq (.pr aC .nil)))))))),(156,(.a5 .bB (.a5 .bB nZ))),(158,(.a5 .bB nZ)),(166,(.dB .bB bo)),(168,(.st (.pr (.a5 .bB hq) (.pr (.a5 .bB (.a5 .bB bO)) (.pr (.a5 .bB (.dB .bB bo)) (.pr (.a5 .bB hq) .nil)))))),(175,(.st (.pr (.a5 .bB (.a5 .bB .bool)) (.pr (.a5 .bB .bool) .nil)))),(206,(.st (.pr nZ (.pr y0 (.pr (.a5 .bB bo) .nil))))),(212,(.a5 .bB (.a5 .bB .bool))),(223,n0),(254,(.st (.pr hq (.pr hq .nil)))),(306,bO)]
def Nr:∀a b,au tt a=some b->dC Tryz.prog b a:=Ns (by kernel_rfl)
def E:dR:={P:=Tryz.prog,tt:=tt,ok:=Nr,mix:=by kernel_rfl,glob:=[⟨0,266,.u8,n9⟩],gok:=RC Nr (S:=5) (by kernel_rfl) (by kernel_rfl)}
def GK:List ai:=[h1,jG,OM,bx,OO,OQ,bo,OK,.bool,bO,tI,OP,oW,Dh,n1,OT,OS,y3,ON,OU,OV,tH,OL,dN,(.optr vW),y2,(.optr yZ),y5,vW,vX,kW,OW,vV,nZ,(.optr kW),Hq,(.optr nZ),Df,y4,(.osl y3),OR,hq,(.osl h1),(.ptr .bB mV),(.optr gX),Di,(.ptr .bB mb),Dg,(.osl hq),(.optr y0),(.optr hq),yZ,(.a5 .bB hq),(.ptr .bB n0),y0,mb,ma,(.optr bO),(.osl bO),(.ptr .bB y1),(.osl (.osl mb)),(.osl (.osl nZ)),eh,(.ptr .bB ma),(.optr aC),aC,(.osl (.mp bo)),(.mp bo),n0,(.a5 .bB ma),(.optr Hp),Hp,(.optr mb),(.ptr .bB (.st (.pr aC (.pr kW (.pr (.a5 .bB (.dB .bB bo)) .nil))))),(.optr n0),(.a5 .bB (.a5 .bB .bool)),(.st (.pr aC (.pr aC (.pr h1 (.pr aC .nil))))),(.ptr .bB jH),(.osl mb),(.a5 .bB (.st (.pr aC (.pr aC (.pr hq (.pr aC .nil))))))]
def aE {h:fB f->Option (g9 f (j1 g))} (i:vU E) (c:Nat) (e:E.P.funcs[a]?=some k) (d:(k.body.isSome&&Nat.ble f.length k.ntmps)=true:=by kernel_rfl) (l:(k.name=="runtime.NumGoroutine")=false:=by kernel_rfl) (j:∀b,xo ⟨E.tt,i.1,(Gb GK c).2.1,k.ntmps,ih 0 f++lS (hT 0 f),[],(Gb GK c).2.2,hT 0 f,[],[],E.glob⟩ ((Gb GK c).1.ex (k.body.getD .skip)) (k.body.getD .skip) f k.results.toList g b=h b:=by intro b;kernel_rfl):aB E ⟨a,f,g,h⟩:=
 aB.q i _ e (PH e l (by have:=d;simp only[bc] at this;exact this.1)) _ _ d j
def sS:aB E ⟨155,[.v dN],[jG],kA⟩:=aE aD 0x1152c455ab261c7f4b3435b0c101a28f318a51a6c0d func155
def q5:aB E ⟨153,[.v .bool,.v dN],[bx],kf⟩:=aE (ah sS aD) 0x1835c319200d func153
def xV:aB E ⟨162,[.v aC],[bx],pc⟩:=aE (ah q5 aD) 0xf8124f00f3db5733a6c0d func162
def xT:aB E ⟨149,[.v bx],[bx],oc⟩:=aE (ah q5 aD) 0xc558600d func149
def vd:aB E ⟨87,[],[bo],qs⟩:=aE aD 0xc08 func87
def sy (a:Int):fo:=⟨E.tt,[],[],14,[0]++(ih 0 [.v eh]++lS (hT 0 [.v eh])),[(0,.val eh a)]++[],[],hT 0 [.v eh],[],[],E.glob⟩
noncomputable def qL:Code:=Tryz.f222.body.getD .skip
def sz:Array Oper:=(s3 3 qL).getD #[]
def EZ:kO:=.two .none (.leaf) (.two .none (.two .none (.leaf) (.leaf)) (.leaf))
def BK:kO:=.keep [0] (.two .none (.leaf) (.two .none EZ (.two .none (.leaf) (.leaf))))
def uR (a:Int):aO:=⟨[(4,.val .bool (a==0)),(3,.val eh a),(2,.val aC 0),(0,.val eh a)],[]⟩
def EY (a:Int):Exit->aO->Option (g9 [.v eh] (j1 [.int .i64])):=Jf E.tt [.v eh] [.tmp 2] [.int .i64] (a,())
def Sj:qL=.seq (Cw qL) (.seq (Cw (MY qL)) (.seq (.region 3 sz false) .ret)):=by kernel_rfl
def Sm:sz.size=10:=by kernel_rfl
def Sk (a:Int) (b:Exit->aO->Option c) (d:aO->Option c):gy (sy a) .leaf (Cw qL) ⟨[(0,.val eh a)],[]⟩ c (ym (λe=>gy (sy a) EZ (Cw (MY qL)) e c (ym d b)) b)=bif a==0 then b .ret ⟨(2,.val aC 32)::(uR a).g,[]⟩ else d (uR a):=by kernel_rfl
def Sg (a:Int) (b:aO->Option c):jl (sy a) sz [0,1,2,3,4] (uR a) b=b ⟨(9,.val eh (IntKind.u32.wrap (dc IntKind.u32 a (IntKind.u32.wrap (0-a))*125613361)))::(8,.val eh (dc IntKind.u32 a (IntKind.u32.wrap (0-a))))::(7,.val eh (IntKind.u32.wrap (0-a)))::(6,.val eh a)::(5,.val eh a)::(uR a).g,[]⟩:=by kernel_rfl
def Sh (a c d b:Int):jl (sy a) sz [5,6,7,8,9] ⟨(9,.val eh b)::(8,.val eh c)::(7,.val eh d)::(6,.val eh a)::(5,.val eh a)::(uR a).g,[]⟩ (EY a .ret)=(da IntKind.u32 b 27).bind λe=>(ax n9 e).bind λf=>some (IntKind.i64.wrap f,()):=by kernel_rfl
def Sn (a:Int):EY a .ret ⟨(2,.val aC 32)::(uR a).g,[]⟩=some ((32:Int),()):=by kernel_rfl
def Sl (a:Int) (d:fB [.v eh]) (f g:Code) (b:Exit->aO->Option c) (h:d=(a,())):gy ⟨E.tt,[],[],14,ih 0 [.v eh]++lS (hT 0 [.v eh]),[],[],hT 0 [.v eh],[],[],E.glob⟩ BK (.seq f (.seq g (.seq (.region 3 sz false) .ret))) ⟨lD 0 [.v eh] d,lE 0 [.v eh] d⟩ c b=gy (sy a) .leaf f ⟨[(0,.val eh a)],[]⟩ c (ym (λe=>gy (sy a) EZ g e c (ym (λe=>jl (sy a) sz (List.range sz.size) e (b .ret)) b)) b):=by subst h;rfl
def Si (b:fB [.v eh]):xo ⟨E.tt,[],[],14,ih 0 [.v eh]++lS (hT 0 [.v eh]),[],[],hT 0 [.v eh],[],[],E.glob⟩ BK qL [.v eh] [.tmp 2] [.int .i64] b=uo b:=by obtain⟨a,⟨⟩⟩:=b;show gy _ BK qL _ _ (EY a)=_;rw[Sj,Sl a _ _ _ _ rfl,Sk,Sm,show List.range 10=[0,1,2,3,4]++[5,6,7,8,9] from rfl,EM,Sg,Sh,Sn];exact Eq.refl (bif a==(0:Int) then some ((32:Int),()) else(da IntKind.u32 (IntKind.u32.wrap (dc IntKind.u32 a (IntKind.u32.wrap (0-a))*125613361)) 27).bind λc=>(ax n9 c).bind λd=>some (IntKind.i64.wrap d,()))
def N5:hV:=⟨222,[.v eh],[aC],uo⟩
def Ll:aB E N5:=
 aB.of (fn:=Tryz.f222) (rs:=[.tmp 2]) [] [] [] BK func222 (by kernel_rfl) (by kernel_rfl) (by kernel_rfl) call222 Ni (by intro a;exact Si a)
def K3:aB E ⟨150,[.v bx],[aC],pd⟩:=aE (ah Ll (ah sS aD)) 0x10024021b60061aa16f0a6c0d func150
def x0:aB E ⟨96,[.v bx],[bx],pa⟩:=aE (ah q5 aD) 0xc558600d func96
def K6:aB E ⟨159,[.v dN,.v aC],[jG],uw⟩:=aE aD 0x2fd00a912de711870ac773ef9214db060d func159
def FG:aB E ⟨160,[.v dN,.v aC],[jG,.bool],ux⟩:=aE aD 0x614f4c61767eb710fe08fd87e0323167ca237bf1a98a5c17a7f224e8541bc559a5312616298cec1866b352774658e282429b060d func160
def LQ:aB E ⟨91,[.v bx],[bx],wO⟩:=aE (ah q5 aD) 0xc558600d func91
def T5:aB E ⟨156,[.v dN,.v dN],[jG],Ax⟩:=aE aD 0x23988023a9faec3b45f1a9d20a16fd9c4dab20aca912de711870ac773ef9214db060d func156
def K5:aB E ⟨157,[.v dN,.v dN],[aC],wP⟩:=aE aD 0x620a429b060d func157
def T6:aB E ⟨158,[.v dN,.v dN],[jG],wQ⟩:=aE aD 0x17bb0017c6bb882a237ece26d59056547711870ac773ef9214db060d func158
def ve:aB E ⟨94,[.v bx,.v bx],[bx],m4⟩:=aE (ah T6 (ah K5 (ah T5 (ah sS (ah q5 aD))))) 0x87eec45f48a50c4d35ea66c30c9e16a837605d467d5b93c028393a4a49226da742b0e4b5741c7d1a4425335b38ac9ddf6ec6d73aa14fbcfefe8f838d623e950613abe741d88d1c5709c0f41a3bd5b492627075fd81041753060d func94
def FH:aB E ⟨161,[.v bx,.v bx],[bx],uv⟩:=aE (ah ve (ah LQ aD)) 0x47abc6ad8004bcf2b753060d func161
def sT:aB E ⟨95,[.v bx,.v aC],[bx],jO⟩:=aE (ah xV (ah FH (ah FG (ah K6 (ah q5 (ah xT aD)))))) 0xcaf53489f2057710168d8556ac6329486eca222267d7d2d65d21ca8efbf21700b99aa9feb8968fe29e0c2b7cc4da53736a70e583dc212bdd729b060d func95
def K4:aB E ⟨151,[.v bx,.v aC],[bx],uz⟩:=aE (ah sT aD) 0xe2205c936d94ccb18cf6de798ccc8a34c0d func151
def FP:aB E ⟨223,[.v eh],[aC],um⟩:=aE aD 0x2b0e785dc03968a07d3 func223
def xU:aB E ⟨152,[.v bx],[aC],pb⟩:=aE (ah FP (ah sS aD)) 0x1875c758600d func152
def q6:aB E ⟨88,[.v bx,.v aC],[bo],ml⟩:=aE (ah x0 (ah vd (ah xU (ah K4 (ah K3 (ah xT aD)))))) 0x724ba83b4017485488500e722ae3e16367b635a8a6db6db060d func88
def TP:aB E ⟨119,[.v aC],[bo],AE⟩:=aE (ah q6 (ah xV aD)) 0x30a00d func119
def nq:aB E ⟨90,[.v bo],[bo],iU⟩:=aE (ah q6 (ah vd aD)) 0x18578600d func90
def nr:aB E ⟨93,[.v bx],[aC],iT⟩:=aE (ah xT aD) 0xd func93
def Li:aB E ⟨214,[.v .bool,.v bO],[bO],pe⟩:=aE aD 0x60d func214
def UF:aB E ⟨211,[.v .bool,.v aC],[bO],wU⟩:=aE (ah Li aD) 0x9c2dc93060d func211
def Vc:aB E ⟨261,[.v bx,.v aC],[.bool],wM⟩:=aE (ah FG (ah sS aD)) 0x532006591f2d72d628060d func261
def Vd:aB E ⟨262,[.v .bool,.v aC,.v .bool,.v aC],[.bool],AJ⟩:=aE aD 0xe2860d func262
def UG:aB E ⟨212,[.v .bool,.v bx,.v aC,.v .bool,.v aC],[bx],AD⟩:=aE (ah ve (ah nr (ah Vd (ah Vc (ah xV (ah K4 (ah K3 aD))))))) 0x3807c8b7a9c9b3668961efe0046c83a954908c31a270db6cf3584525828b7af36623b3c816a80161a18bfca935c86b03041ff1f9047b5c80affe17e6a536c48e2860d func212
def UH:aB E ⟨213,[.v bx],[aC,.bool],Av⟩:=aE (ah xT aD) 0x5ae249aa233c940edbc72429b6c0d func213
def FD:aB E ⟨141,[.v .bool,.v bx,.v aC,.v .bool,.v aC],[bO],uA⟩:=aE (ah sT (ah Li (ah UH (ah UG (ah UF (ah xU aD)))))) 0x22b3add0290828516648d1039f3c84119dcc4db6c48e2860d func141
def V1:aB E ⟨81,[.v bo,.v aC],[bO],AN⟩:=aE (ah x0 (ah nr (ah nq (ah FD aD)))) 0x19da07b2576fe1e0f0de891bd7f61ff15d7d51dcb46a6db060d func81
def LD:aB E ⟨52,[.v aC,.v aC],[bO],r7⟩:=aE (ah V1 (ah TP aD)) 0x60d func52
def Uq:aB E ⟨192,[.v aC,.v aC,.v aC],[.bool],Ae⟩:=aE aD 0x2860d func192
def Lw:aB E ⟨269,[.v aC],[.bool],qm⟩:=aE aD 0xd func269
def FQ:aB E ⟨234,[.v aC,.v aC],[.bool],rV⟩:=aE (ah Lw aD) 0x60d func234
def UU:aB E ⟨242,[.v dD],[.bool],Ak⟩:=aE (ah FQ aD) 0x30a5214c0d func242
def Ur:aB E ⟨193,[.v gX],[.bool],Ab⟩:=aE (ah UU aD) 0x89168401d66b93f29e80930b3bf78f127d54e40fbd6eac4b248cdff8c5060d1e00b4c0d func193
def FE:aB E ⟨142,[.v bO],[aC,bO],ue⟩:=aE aD 0xd func142
def Cd:aB E ⟨84,[.v bO],[.bool],o7⟩:=aE (ah FE aD) 0xd func84
def Ut:aB E ⟨195,[.v bO],[.bool],DR⟩:=aE (ah Cd aD) 0xd func195
def UV:aB E ⟨243,[.v lz,.c 195 []],[aC],DT⟩:=aE (ah Ut aD) 0x3195177853060d func243
def Us:aB E ⟨194,[.v lz,.c 195 []],[.bool],Ag⟩:=aE (ah UV aD) 0x60d func194
def B2:aB E ⟨121,[.v gX],[aC],qq⟩:=aE (ah Ur (ah Uq (ah Us aD))) 0x483600920a7b34c0d func121
def TQ:aB E ⟨122,[.v dD,.v aC],[h1,.bool],A9⟩:=aE aD 0x23c77e56d00647fd1d61649549b6abff84c188d32f8a2554b1020cf3dcc1d77269ed04fe9ab949db0f0a6db060d func122
def Lc:aB E ⟨196,[.v gX],[oW],uq⟩:=aE aD 0xec1740ca8b5e9e93c588aef5307a40487df8decb96c7d388140c83212c38c63dac169e0af80c5dda3f3494ebde21bf45d879e23ce5ba59fb84722ac94c8b4af0a6c0d func196
def Vh:aB E ⟨270,[.v (.a5 .dd ma)],[oW],DS⟩:=aE aD 0x60a00d func270
def Lv:aB E ⟨264,[.v aC,.v aC],[aC],tY⟩:=aE (ah Lw aD) 0x60d func264
def Vk:aB E ⟨273,[.v dD],[aC],zA⟩:=aE aD 0x632a2d9d6f0a6c0d func273
def Vj:aB E ⟨272,[.v ma,.v ma],[aC],Ad⟩:=aE (ah Vk (ah Lv aD)) 0x28e9fae0dd280def2b0df6a0133753060d func272
def VA:aB E ⟨297,[.m oW,.v aC,.v aC,.c 272 []],[],wI⟩:=aE (ah Vj aD) 0x1fdca31dde7cb0d8bf34bc3c1d304081ba01abde156dcc56a12968308e8d4d148233fc240beae1c265119b1fcee0193512ec062361d058528c369ed21e640c0613012180c2c38a1d func297
def Vt:aB E ⟨287,[.m oW,.v aC,.c 272 []],[],D0⟩:=aE (ah VA aD) 0x7829ba3655708d8741613cb0db19b0a09848e40d93620914769b0a1d func287
def Vi:aB E ⟨271,[.m oW,.c 272 []],[],DZ⟩:=aE (ah Vt aD) 0x1d func271
def UW:aB E ⟨244,[.v (.a5 .dd ma)],[oW],Ac⟩:=aE (ah Vh (ah Vi aD)) 0x0 func244
def Uu:aB E ⟨197,[.v aC,.v aC,.v (.a5 .dd ma)],[vX],Aa⟩:=aE (ah UW aD) 0x5a3f85b98bdf7eff56c4900496cc17a5459ca4c1389c3ca78ed9fdb796a7eddda72f06c44335785378b97734bce0410bbca212b7d64b107fd0f6d35eac33b7abac4c388988e1a1b885b6c43157869dc2f80b305468abaf6d2792356f8b81eaaaae1f1072831fb6bd57bf8332d71adbc1758d02cb63ee11911d7f2ac78a3301c727bd0ae51ed9585e0a97f9a8a37f63e3e95f1724ed8e712dd01241b00ae472df5b6b3faaceae5276f0a6c2860d func197
def TR:aB E ⟨123,[.v gX],[vW,aC],z9⟩:=aE (ah Uu (ah Lc (ah B2 aD))) 0x3beb37f97f342f4fa2917b291440a89e8f546b1d5349e5d2da716dc66472bc48d07e89adecd2632bc29b6c0d func123
def Ld:aB E ⟨198,[.v aC],[tI],wy⟩:=aE aD 0x79677a82d7ee11bcab853234f0a6c0d func198
def Uv:aB E ⟨199,[.v gX],[oW],z8⟩:=aE (ah Lc (ah B2 aD)) 0x30580600d func199
def Lf:aB E ⟨200,[.m tI,.v aC,.v aC],[],wB⟩:=aE aD 0x1b90811b875b96fba90abaafbe04f9b237bf78113530a1d func200
def UX:aB E ⟨245,[.v (.a5 .dd (.a5 .dd .bool)),.v aC],[h1],zR⟩:=aE aD 0x948004acb192e60c7711810d05f24c1bc29b060d func245
def Lg:aB E ⟨201,[.v (.a5 .dd (.a5 .dd .bool))],[yZ],wA⟩:=aE (ah UX aD) 0x3384dfc8aa712ada53cc49fdca8325d2f180e1ac57240657d8db9c29f047e2b4bfe5bb5632ad70cc90e5dc7c452cd240f0a6c0d func201
def TS:aB E ⟨124,[.v gX],[kW,aC],wx⟩:=aE (ah Lg (ah Lf (ah Uv (ah Ld (ah B2 aD))))) 0x39f22550ff781f8719e6306c16e33de5b719964cffa114a1e02ab737b34a9bc29b6c0d func124
def UL:aB E ⟨230,[.v dD,.v aC],[.bool],zS⟩:=aE aD 0x13f44846cbb9863e60a39d3c29b060d func230
def UP:aB E ⟨235,[.v aC],[.bool],An⟩:=aE aD 0xd func235
def FO:aB E ⟨185,[.v dD,.v aC],[aC,.bool],r3⟩:=aE (ah UP (ah FQ aD)) 0x1098cc9b28a3b4db060d func185
def Lp:aB E ⟨231,[.v iN,.v aC,.v aC],[.bool],ug⟩:=aE (ah FO aD) 0xc8e02860d func231
def FN:aB E ⟨178,[.v iN],[aC],uf⟩:=aE (ah Lp (ah UL aD)) 0x6afcc24fd40bed2a076cf69658e6c3a9308c83eeb40b7f36760e07f7730cdd4d51aa578536c0d func178
def U0:aB E ⟨248,[.v iN,.v aC],[.bool],zV⟩:=aE aD 0x3228060d func248
def VG:aB E ⟨311,[.v bO],[aC],IF⟩:=aE aD 0x2089c6502b625dc039d87d3 func311
def VD:aB E ⟨301,[.v bO],[aC],DP⟩:=aE (ah VG aD) 0xd func301
def VE:aB E ⟨303,[.m h1,.v aC,.v aC],[],Am⟩:=aE (ah FQ aD) 0x38a4b03519c13a64e224dcdca5ab1d58671f6a6e5efc15ef57660e8f36506b24e15fd6d5d47412c43611215352028144b5ef00d873e014130d9eb4879003018400466030b0a1d func303
def VC:aB E ⟨300,[.m h1,.v aC,.v aC,.v aC],[],Ao⟩:=aE (ah VE aD) 0xa037a2f31745800909a8451b130b0185b func300
def Vu:aB E ⟨289,[.m h1],[],wH⟩:=aE (ah VD (ah VC aD)) 0x0 func289
def N6:hV:=⟨249,[.v dD],[.bool],zU⟩
def U1:aB E N6:=Hl.YM rfl (sort:=λd=>(wH (d,())).map λa=>a.1) (λe f b=>by obtain⟨a,c,rfl⟩:=dY.1 b;exact Vu.2 (e,()) a c)
def UZ:aB E ⟨247,[.v aC,.v y2],[.bool],DN⟩:=aE (ah U0 aD) 0x60d func247
def Vl:aB E ⟨274,[.v dD,.c 247 [y2]],[aC],DW⟩:=aE (ah UZ aD) 0x3195177853060d func274
def UY:aB E ⟨246,[.v dD,.c 247 [y2]],[.bool],Aj⟩:=aE (ah Vl aD) 0x60d func246
def Ux:aB E ⟨202,[.v iN,.v dD],[aC],zQ⟩:=aE (ah U1 (ah FN (ah UY aD))) 0x3228060d func202
def Uy:aB E ⟨203,[.v iN,.v dD],[kW],zT⟩:=aE (ah Lp (ah Lg (ah Lf (ah Ld aD)))) 0x30e44f7c57872ef24b7f0269f787b3d0ab0d917dfd2d3bf03770a54dcdfd4aab44e10616d60f396e8dc67bd46e45237a114a37717b64961143c29b060d func203
def TT:aB E ⟨125,[.v iN,.v dD],[kW,aC],wz⟩:=aE (ah Uy (ah Ux aD)) 0x5c27228060d func125
def jX:aB E ⟨219,[.v dN],[dN],gG⟩:=aE aD 0x1a28f318a51a6c0d func219
def pE:aB E ⟨220,[.v .bool,.v dN],[bx],jN⟩:=aE (ah jX aD) 0x19200d func220
def B3:aB E ⟨145,[.v aC],[bx],rY⟩:=aE (ah pE aD) 0xdf524f00f3db5733a6c0d func145
def T2:aB E ⟨146,[.v bO],[.bool],zO⟩:=aE aD 0xd func146
def B7:aB E ⟨221,[.v dN],[jG],r4⟩:=aE aD 0x8a00d func221
def FF:aB E ⟨147,[.v bx],[bx],qp⟩:=aE (ah B7 (ah pE aD)) 0x13efd1aa73c519fa4e0f047e9e9ffe2c0dd4c0d func147
def B4:aB E ⟨167,[],[bo],uc⟩:=aE aD 0xc08 func167
def UI:aB E ⟨215,[.v bx],[bx],zY⟩:=aE (ah B7 (ah pE aD)) 0x2e8ead1bdf62eff0bf10f98af03cb94add4c0d func215
def sR:aB E ⟨144,[.v bx],[aC],m3⟩:=aE (ah jX aD) 0x58600d func144
def Lj:aB E ⟨216,[.v bx],[aC],wD⟩:=aE (ah Ll aD) 0x18db00319516d1e14c0d func216
def Lu:aB E ⟨263,[.v dN],[aC],uj⟩:=aE (ah FP aD) 0xd func263
def xW:aB E ⟨217,[.v bx],[aC],o8⟩:=aE (ah Lu (ah jX aD)) 0x58600d func217
def FR:aB E ⟨266,[.v dN,.v aC],[dN],r1⟩:=aE (ah jX aD) 0x17d61a98816400461dc91aca8599e2f0a6db060d func266
def Vr:aB E ⟨284,[.v eh],[.bool],DO⟩:=aE aD 0xd func284
def Vz:aB E ⟨296,[.v dN,.c 284 []],[aC],DX⟩:=aE (ah Vr aD) 0x3195177853060d func296
def Vq:aB E ⟨283,[.v dN,.c 284 []],[.bool],wG⟩:=aE (ah Vz aD) 0x60d func283
def FSq:aB E ⟨267,[.v dN,.v aC],[dN,.bool],ui⟩:=aE (ah jX (ah Vq aD)) 0x60c80961156027764718e7622aa93a37fab0b3189b34975aa7f65628436c8eb47c8319eb684db060d func267
def B8:aB E ⟨225,[.v dN,.v dN],[dN],r0⟩:=aE (ah jX aD) 0xdb4c17e13ab00475450f87f154f8d4e90b822cbf67136a692a64acb79d79b0e0d1f444529287d3 func225
def Ln:aB E ⟨228,[.v bx,.v aC],[bx,aC],o9⟩:=aE (ah FSq (ah FR (ah B8 (ah pE (ah jX aD))))) 0x2c0d40b5cc6a918322e878b0eb6ae3f9e74aecb10ad4f50c1e4140483ac0b923078ab8f6cc6453060d func228
def Lk:aB E ⟨218,[.v bx,.v aC],[bx],wq⟩:=aE (ah Ln aD) 0xe2205c936d94ccb18cf6de798ccc8a34c0d func218
def q4:aB E ⟨143,[.v bo],[bo,.bool],lI⟩:=aE (ah Lk (ah xW (ah Lj (ah UI (ah B4 (ah sR aD)))))) 0xe88e9c99fe06e34bc272efdf39dec77aaf10f35ee489710341c5335c7b6c3cc66684b4db6c0d func143
def xS:aB E ⟨148,[.v bx,.v aC],[bo],qn⟩:=aE (ah q4 aD) 0x316625628060d func148
def vc:aB E ⟨86,[.v bO],[bo],mi⟩:=aE (ah xS (ah FF (ah T2 (ah B3 (ah FE aD))))) 0x3925ad02e9096dc6661720c3db6f513426c0d func86
def FU:aB E ⟨55,[.v gX,.v dD],[(.ptr .bB (.st (.pr aC (.pr kW (.pr (.a5 .bB (.dB .bB bo)) .nil))))),aC],ph⟩:=aE (ah vc (ah TT (ah TS (ah TR (ah TQ (ah B2 aD)))))) 0x5018ebc57ea0902a45a7cc45e36a3ac811f9068bec82dff05718c2185f10c5f50d55348bd1b852b5946e8f1b0af97b85a37415b76eb4e235de891685622e87727a516d9159625c79f0d93ab6172956de91f65cb77e91f2f00eea715b5c3bcd3fc925964538d473c8cb923e4cb4e51618c985f8c14fae491d978b4fb45d4b0aba88dd274cdd4b44d0b55f578d602ddfa21edc28a626132d9ede1c31fd9acfec65d79dbfe48f0de891be3091fd7d51dcb46a6db6db060d func55
def U3:aB E ⟨250,[.v aC],[Df],zN⟩:=aE aD 0x68d7626d24822e31fd43e4326bacbf4e8bf597f58df681426d59dbd0e0d48b8c7c64869ac3a658c901c6f3f61b0b5cd8c1d14d6b674875b70b28b0a01cf77dd99b15878fc33420c422cf77308e3742e96481d4c0d func250
def U4:aB E ⟨251,[.m Df,.v aC,.v aC],[],zM⟩:=aE aD 0x10aa361dd57420b1c2412870768180c209e020b01842d func251
def Uz:aB E ⟨204,[.v iN],[h1,aC],zL⟩:=aE (ah U4 (ah U3 (ah FN aD))) 0x1d466601902817f76158a465eac1030d40260f396e658ec771187691065f282f3c29b6c0d func204
def UA:aB E ⟨205,[.v iN,.v dD,.v aC],[h1],A8⟩:=aE aD 0x225043b669c4499da18b9f643cdc74344c191a33ea0dee0326236e33dd1436c91920c1020ac08078a563de23b93b2dd37200239ee30d652a778536c2860d func205
def TU:aB E ⟨126,[.v iN],[(.osl h1),aC],A7⟩:=aE (ah UA (ah Uz aD)) 0x101196d36b51336cff5910c333012d59261ba019892397cd1e265807109cb7733ce5b9a17baee462ca503194a1db2bc29b6c0d func126
def LG:aB E ⟨56,[.v vY],[y5],wg⟩:=aE (ah TU aD) 0x1160fb55c1e64d7b0b588c29a96939950f04feaf6836831a03e100d15c59b298d3c951c2c226d4e4639c6ce0d8918375971392b3ded1dbe3bbe6f83d55db0e37a775572af01c1f8c6eed0dbb3ab93eb215386baa85b886d17f0e4b8cffe672546f7f580e701e7f503b73dc884fed3c1b49bf652cf4b6d60f8585b7691ff9200c69dd4bb97fb77d598790361505d50e25506b82d7e67e6159e8146b3d057588e23ad515c6bac781da231d283e06ea6c0d func56
def FB:aB E ⟨107,[.v vY,.v aC,.v aC],[bo],uE⟩:=aE aD 0x31a02860d func107
def FJ:aB E ⟨166,[.v bo,.v bo],[bo,bo,.bool],ud⟩:=aE (ah q4 aD) 0x2c8262799e875a6bde98b8a9221192db268d4db060d func166
def UJ:aB E ⟨224,[.v dN,.v dN],[dN],z6⟩:=aE (ah jX aD) 0x1eb3a11e0206afe4be3ec9734be5fb29993a2a0976f654c3424c58965faca692a303fe3afed168f9093060d func224
def K7:aB E ⟨168,[.v bx,.v bx],[bx],wC⟩:=aE (ah UJ (ah pE (ah jX aD))) 0x2b0d18995bb3d89730d0333753060d func168
def Fz:aB E ⟨103,[.v bo,.v bo],[bo],tZ⟩:=aE (ah K7 (ah B4 (ah FJ (ah xS aD)))) 0x2558c8dcf458a3e3451a4b25b4863e7fafcb8d249ad23fafaa3b968d4db060d func103
def FL:aB E ⟨173,[.v bo],[bo],ua⟩:=aE (ah FF (ah q4 aD)) 0x123c030f612331ba6c0d func173
def vb:aB E ⟨170,[.v bx,.v aC],[bx],lH⟩:=aE (ah Ln aD) 0x648060d func170
def Vp:aB E ⟨282,[.v eh],[.bool],zB⟩:=aE aD 0xd func282
def Ve:aB E ⟨265,[.v eh,.v eh],[aC],zz⟩:=aE (ah Vp aD) 0x60d func265
def B9:aB E ⟨226,[.v dN,.v dN],[aC],rZ⟩:=aE (ah Ve (ah Lv aD)) 0x620a429b060d func226
def Lm:aB E ⟨227,[.v dN,.v dN],[dN],uk⟩:=aE (ah jX aD) 0x547b594e4017c6c5a80b1171bf67136b342e6547711870dc773ef92c25e14db060d func227
def B5:aB E ⟨169,[.v bx,.v bx],[bx],qo⟩:=aE (ah Lm (ah B9 (ah B8 (ah pE (ah jX aD))))) 0x2ba375b6e655421c0bf15ec412370d6777027b00ff919578eb969b060d func169
def FA:aB E ⟨104,[.v (.a5 .dd bo)],[bo],ub⟩:=aE (ah vb (ah B5 (ah B4 (ah xS (ah q4 aD))))) 0xae16fe1637b94b5fb0041f497ecf81bd62c5e6f49050a76ef246bf1388da6aa08f337cf3dc03878579c75592d3623c0711d75a68025b3be199366ab0facb4a59a4a4678536c0d func104
def TV:aB E ⟨127,[.v (.ptr .dd (.st (.pr (.a5 .dd dD) (.pr (.a5 .dd lz) (.pr (.a5 .dd (.dB .dd bo)) (.pr (.a5 .dd dD) .nil)))))),.v vY,.v aC,.v aC],[bo],wi⟩:=aE (ah FL (ah FB (ah FA (ah Fz aD)))) 0x2986522e5e610db675a585258b404fc7b46efce8f0eb8641dfb0812c0de7089ae6f14d9cfd59896d0b309cc752624cedcf358bab7619a49a48f3e59a2476f12a16bc29b0e2860d func127
def xZ:aB E ⟨85,[.v bo],[aC],ob⟩:=aE (ah sR (ah q4 aD)) 0xd func85
def xR:aB E ⟨106,[.v bo],[bo],o6⟩:=aE (ah q4 aD) 0x30a00d func106
def Vw:aB E ⟨292,[.v dN,.v eh],[dN,eh],z5⟩:=aE (ah jX aD) 0x9630b9c40ad9326b91873b2776f29214db060d func292
def Lz:aB E ⟨293,[.v eh],[aC],r2⟩:=aE (ah FP aD) 0xd func293
def N7:hV:=⟨294,[.w eh,.v dN],[eh],wE⟩
def Vx:aB E N7:=
 .q aD (.k [1] (.n (.n (.t .none (.d [.b [0],.a,.b [0],.b [0],.a,.a,.b [0],.a,.a,.b [0],.b [0],.a,.a,.a]) (.n (.t .none (.o (.k [5] (.p ⟨[(0,.w 0),(7,.v bO),(8,.v bO)],[(0,jG)]⟩ (.x 0 ⟨[(0,.w 0),(7,.v bO)],[(0,jG)]⟩) (.t (.te [7,8] ⟨[(0,.w 0)],[(0,jG)]⟩) (.t .none (.d [.a,.a,.a,.a,.a,.a,.a,.a,.a,.a,.a,.a,.a,.b [0],.a,.a,.b [0],.b [0],.a,.a,.a,.a]) .l) .l)))) (.n (.t .none (.n (.o (.k [5,7,84,85] (.p ⟨[(0,.w 0),(9,.v bO),(10,.v bO),GP 86],[(0,jG)]⟩ (.x 2 ⟨[(0,.w 0),(9,.v bO),(10,.v bO)],[(0,jG)]⟩) .l)))) (.n (.n (.n (.n (.t .none (.n (.o (.k [5,7,140,141] (.p ⟨[(0,.w 0),(9,.v bO),GP 142],[(0,jG)]⟩ (.x 4 ⟨[(0,.w 0),(9,.v bO)],[(0,jG)]⟩) .l)))) .l))))))))))))) func294 call294
def Lx:aB E ⟨280,[.v dN,.v dN],[dN,dN],wF⟩:=aE (ah Vx (ah Lz (ah Vw (ah FSq (ah FR (ah B9 (ah B7 (ah jX aD)))))))) 0x18aeeeee0614f762e5dd2c918b4d25c40bf549368a461fe36e53e6c922f3a78536db6db060d func280
def Vn:aB E ⟨279,[.v dN],[dN],z2⟩:=aE (ah Lx (ah FSq (ah FR (ah Lu (ah B9 (ah B8 aD)))))) 0x8a302e3b0b6c0d func279
def U9:aB E ⟨257,[.v bx],[bx,aC],zZ⟩:=aE (ah Vn (ah pE (ah jX (ah sR aD)))) 0xc558600d func257
def FM:aB E ⟨175,[.v bx,.v bx],[aC],uh⟩:=aE (ah B9 (ah jX (ah sR aD))) 0xb1d628060d func175
def UB:aB E ⟨207,[.v bo,.v aC],[n0],zJ⟩:=aE (ah U9 (ah xW (ah FM (ah vb (ah K7 aD))))) 0x2135fda374ea4603644e2c5d1b68c241671428ff74fd108ca368163209b060d func207
def U5:aB E ⟨252,[.v n0],[aC],zH⟩:=aE (ah xW aD) 0x19e0600d func252
def Vv:aB E ⟨291,[.v bx,.v bx],[bx],z1⟩:=aE (ah B5 aD) 0x325628060d func291
def Vm:aB E ⟨278,[.v n0,.v aC],[bx,aC,.bool],wl⟩:=aE (ah Vv (ah Lk (ah xW (ah FM (ah vb (ah B3 (ah sR aD))))))) 0x15822ed174d26dfd831e323133f662829d80b3eca42eebafa2c53c00f0fdbddf7b7bff50820b4cea6db060d func278
def U7:aB E ⟨254,[.v n0,.v aC,.v aC],[bx],zI⟩:=aE (ah Vm (ah Lj (ah vb (ah B5 (ah FF (ah B3 (ah sR aD))))))) 0x3e334031969d38a98e7bb527a8a141cf3ec73866b2c881059210bc876c57f815cc2e41f6be7639f26ae4cb26c2860d func254
def FK:aB E ⟨171,[.v bx],[bx],rX⟩:=aE (ah B7 (ah pE aD)) 0x14d0c558600d func171
def U6:aB E ⟨253,[.v bx],[aC,.bool],zX⟩:=aE (ah jX aD) 0xa7c641ea3f1d2d07444cbdff54d8852951b13b8897972bc29b6c0d func253
def Lr:aB E ⟨255,[.v bO,.v .bool],[bO],rW⟩:=aE aD 0x60d func255
def U8:aB E ⟨256,[.v .bool,.v aC],[bO],zP⟩:=aE (ah Lr aD) 0x9c2dc93060d func256
def Lh:aB E ⟨206,[.v n0,.v aC],[bO],ww⟩:=aE (ah U8 (ah Lr (ah U7 (ah U6 (ah U5 (ah FK aD)))))) 0x13687806f3e04826db060d func206
def KV:aB E ⟨128,[.v bo,.v aC],[bO],wv⟩:=aE (ah xZ (ah UB (ah Lh (ah xR aD)))) 0x92e28966b99878d09b060d func128
def KW:aB E ⟨129,[.v bO],[aC],ws⟩:=aE (ah FE aD) 0x12bf69059a6c0d func129
def Va:aB E ⟨258,[.v bx,.v bx],[bx,bx,aC],zW⟩:=aE (ah Lx (ah Lm (ah B8 (ah pE (ah jX aD))))) 0xf788e0b91f142043b401748e4882c0e722a5ad958f85ee0bd25cf7b632a826db060d func258
def UC:aB E ⟨208,[.v bo,.v bo,.v aC],[n0],zG⟩:=aE (ah Va (ah xW (ah FK (ah vb (ah sR aD))))) 0x22c85df5d481842180f66dee4a1f0d6701da11a33e060d970ef81ccfc0ebba803338937a0666ea6c2860d func208
def KY:aB E ⟨130,[.v bo,.v bo,.v aC],[bO],wu⟩:=aE (ah xZ (ah UC (ah Lh (ah xR aD)))) 0x13e836fa0a0cfaacc66bcf0792d67b8db2a141d202d2ede8d4c2860d func130
def VS:aB E ⟨57,[.m y5,.v vY,.v aC],[aC],zv⟩:=aE (ah vc (ah xZ (ah Cd (ah KY (ah KW (ah KV (ah TV aD))))))) 0x10dba1f4f8120edd9dd30cabe8f167b36f9310f1a79b81e72859856af8bde2e4064de8cafd1ba07885c796edaa2c2aaeab745d75709c4daa3f07fbd45c06ea6b5baea9f5d231bf074d238349ac677c72d36fa6d387b62a21c9147023e35f9052f32241b042c78836d7adeb617cefd71c4ff3c3ad1fc6c6bf65dcb38fca0d4a81e02593194aaa9146b1f377ed4d0d4e9f095da41e46e07ff67db8e798b821b8d79027c1b2ac4ce8e1368113536db0a1d func57
def TW:aB E ⟨131,[.v dD],[h1],Af⟩:=aE aD 0xa00d func131
def LH:aB E ⟨58,[.v (.ptr .dd (.st (.pr (.a5 .dd dD) (.pr (.a5 .dd lz) (.pr (.a5 .dd (.dB .dd bo)) (.pr (.a5 .dd dD) .nil)))))),.v dD],[y4],wh⟩:=aE (ah TW aD) 0x2a7248e2604f0c572d41781da2b1a0a740520ee9c86d6dc0e2a353b6ca3e39d2fe3c1ce0655b25ac4c49c1edabeb72052defcaa3c7251f51e9622ec026a710f0301e2263807d473896eb1d0346e4523da2b37897b6497bc29b060d func58
def KX:aB E ⟨13,[.v gX,.v dD],[tH,aC,aC],o4⟩:=aE (ah LH (ah VS (ah LG (ah FU aD)))) 0x1fbe16e4870ccc41ea4cfd424f281beac4f8e4997cc5df35cf888926775ba7ae0c492452747acb602a9db64a96ef0a6db060d func13
def Le:aB E ⟨20,[.v dD,.v dD],[.bool],r6⟩:=aE aD 0x620a429b060d func20
def LF:aB E ⟨53,[.v lz,.v lz],[.bool],As⟩:=aE aD 0x620a429b060d func53
def TF:aB E ⟨11,[],[.bool],Au⟩:=aE (ah LF (ah LD (ah Le (ah KX aD)))) 0x846c8d71aa48 func11
def B6:aB E ⟨21,[.v aC,.v aC],[aC],mj⟩:=aE aD 0x60d func21
def FT:aB E ⟨50,[.v lz,.v aC],[bO],us⟩:=aE (ah B6 aD) 0x6e1e9b060d func50
def xX:aB E ⟨67,[.v bO],[.bool],qu⟩:=aE aD 0xd func67
def T8:aB E ⟨164,[.v bO],[bO],D1⟩:=aE (ah LD aD) 0xd func164
def V6:aB E ⟨99,[.v bO,.v aC],[bO],Aq⟩:=aE (ah xX (ah B6 (ah T8 aD))) 0x60d func99
def VI:aB E ⟨35,[.v lz,.v aC,.v aC,.v aC],[vX],Ap⟩:=aE (ah V6 (ah FT aD)) 0x26ad61a2fcac6d0c69be866cc52f25329f615a8be79998210665d9838131ef3304dd9cca493b561651c66f257d796a5e442809229a9e7525c0185c46280f5597b88b6ecd9611b603685a49a48d5e6b9be76f12429b0e2860d func35
def TZ:aB E ⟨135,[.v lz],[.bool],AO⟩:=aE (ah xX aD) 0x30a5214c0d func135
def xY:aB E ⟨68,[.v gX],[aC],pf⟩:=aE (ah TZ aD) 0x9a39549089a231007afee5752252d7622a0dbbe989d68087900b4c0d func68
def U2:aB E ⟨25,[.v gX,.v aC,.v aC],[bO],AP⟩:=aE (ah xY aD) 0xd97a01285e44d1e0174c2860d func25
def V4:aB E ⟨89,[.v bO],[.bool],AK⟩:=aE aD 0xd func89
def Cb:aB E ⟨24,[.v bO],[bo],qv⟩:=aE (ah V4 (ah q6 (ah vd (ah xX aD)))) 0xb408ad23c030f40edbcce9b6c0d func24
def VB:aB E ⟨30,[.v bo],[bo],AA⟩:=aE (ah x0 (ah nq (ah q6 aD))) 0x4de366eff100be544f8a38b13e96ed3a3536c0d func30
def Ly:aB E ⟨29,[.v (.a5 .dd bo)],[bo],wT⟩:=aE (ah sT (ah ve (ah nr (ah nq (ah q6 (ah vd aD)))))) 0xb7cf6e54984aea9210928e66e011d75fc8a7de57582f9a31366ed12770aca57b3c6bfa63105d72461b95c03fc6fdddffa3e1cdd6a1b289b12046d33a0738ba394a01c46ce9335ed77004b677c33263d561e81694b3490a6c0d func29
def VR:aB E ⟨51,[.v lz,.v aC],[hq],Ar⟩:=aE (ah FT (ah B6 aD)) 0x234ec7fd7f431f4037f42bce11987e021f92218c37bd4e5bee93d36ad1574e1189dd0058e85a1536b71dbe925704be32809846be9bf06b27a6e88228e95f2d63e765464c94d222429b060d func51
def KZ:aB E ⟨132,[.v dD,.v aC],[.bool],w9⟩:=aE aD 0x8794808560c5e84759579d61a78532f9214db060d func132
def FV:aB E ⟨59,[.v gX,.v dD],[aC],uD⟩:=aE (ah xY (ah KZ aD)) 0x2028060d func59
def LM:aB E ⟨69,[.v gX],[oW],wV⟩:=aE (ah xY aD) 0xeb71cf9ee93207b2e7260cf4f48a8d7162a9b99f4bacd37e17178bb3f493cb5e0eaea4879c5f018bbb47e6929d7bc437e8bb0c11d96cb3f708e454d2990578536c0d func69
def VW:aB E ⟨70,[.v aC,.v aC,.v (.a5 .dd ma)],[vX],AR⟩:=aE aD 0x360da4eff9c923984c15a3242bffc387a93fbed9238a463aee002ef8c568611f2dd029645aa302e7a86885e1454530ca508962eeb5e6865cf5174cc939a6aa31c451b252c1548331c57fe5eee939203e4955461598cd6cd35c16c122cae81df1649acbb487a9e98b15c332d335c5ac26c2483625815c8c0ceb6d6770e1d5ca48536c2860d func70
def T7:aB E ⟨16,[.v gX],[vW,aC],AQ⟩:=aE (ah VW (ah LM (ah xY aD))) 0x1e2acdfe5fe3a908b5ab2f8bd948a20523d51254ce4165b4e2db8cc8e48d07ac5ecd2272bc29b6c0d func16
def LN:aB E ⟨71,[.v aC],[tI],wZ⟩:=aE aD 0xbbb623d7e0b5fb846f2a694c90a6c0d func71
def LO:aB E ⟨72,[.v (.a5 .dd (.a5 .dd .bool))],[yZ],wW⟩:=aE aD 0x2f627f198fbf6ec8c280c9e490da4fb3d6c324c10ac698608f78430dac026cdd7585281659a5cef47c81d1800774521ac312dd58cab5c332439771e694b3490a6c0d func72
def Ua:aB E ⟨17,[.v gX],[kW,aC],AU⟩:=aE (ah LO (ah LN (ah LM (ah xY aD)))) 0xd9f3ec8e62268ee6bddc6b6aff5d86d4eb16595fcf7eb4861a59d716c6e33de5b71991bd08a50f58bd9a451e14db6c0d func17
def K0:aB E ⟨136,[.v dD],[.bool],wK⟩:=aE aD 0x30a5214c0d func136
def FC:aB E ⟨137,[.v dD,.v aC],[.bool],qr⟩:=aE aD 0xc414853060d func137
def Cc:aB E ⟨73,[.v iN],[aC],r8⟩:=aE (ah FC (ah K0 aD)) 0x2f8cc802cac4b24b608f396b0c3542a578536c0d func73
def VX:aB E ⟨74,[.v dD,.v aC],[.bool],At⟩:=aE aD 0x8794808560c5e84759579d61a78532f9214db060d func74
def T0:aB E ⟨138,[.v dD,.v aC],[.bool],AS⟩:=aE aD 0x4f6b0c414853060d func138
def T1:aB E ⟨139,[.v dD],[.bool],AT⟩:=aE (ah FC aD) 0x30a5214c0d func139
def K2:aB E ⟨140,[.v iN],[tI],wY⟩:=aE aD 0x98a3e07a30c93320644c808944ca7b76ac4ba8b9a6bd8625b1b4652379b40b242a578536c0d func140
def VY:aB E ⟨75,[.v iN,.v dD],[kW,aC],AV⟩:=aE (ah Cc (ah LO (ah LN (ah K2 (ah T1 (ah T0 aD)))))) 0x38d5bf759048db49d0c0ddc4e0eb58438263ce37216ceb0a252989437ace3f33ff8cb4f1a6ddc2a97737dd8fbd12093b2d8e327bd48945237b314a36e1c3648bbc29b6db060d func75
def Ue:aB E ⟨18,[.v iN,.v dD],[kW,aC],wX⟩:=aE (ah VY (ah VX (ah Cc aD))) 0x5c27228060d func18
def LI:aB E ⟨60,[.v gX,.v dD],[kW],w8⟩:=aE (ah Ue (ah Ua (ah T7 aD))) 0xb898170f00e1605c26028060d func60
def VZ:aB E ⟨76,[.v iN],[Di],AW⟩:=aE (ah K2 aD) 0x2fdab03cfdaa731a2232cab0fd68412cdb299cf06a9b3733afa94e51321d3ffc580b32e81d4c0d func76
def LP:aB E ⟨77,[.v (.ptr .dd (.st (.pr (.a5 .dd (.a5 .dd .bool)) (.pr (.a5 .dd .bool) .nil)))),.v aC],[h1],w2⟩:=aE aD 0x37b00038529fe082858959575560c7711810a65f2429b060d func77
def V0:aB E ⟨78,[.m Di,.v aC],[],w1⟩:=aE (ah LP aD) 0x10b27bff58bbfca877f4714f7e21476f77c95212bc7d95104371af2155fa1bdef9c3200ba7ea256ef8a8ed84a33a765ad41c241231ad034082439e14c1d func78
def Un:aB E ⟨19,[.v iN],[(.osl hq),aC],AX⟩:=aE (ah V0 (ah LP (ah VZ (ah Cc aD)))) 0xfc110577cb6efbe05b0177dd77231f52735a42b1937c82bc29b6c0d func19
def LJ:aB E ⟨61,[.v gX,.v dD,.v aC,.v aC],[bo],w7⟩:=aE (ah U2 (ah Cb aD)) 0x6460480e2860d func61
def T4:aB E ⟨154,[.v dN,.v dN],[jG],Az⟩:=aE aD 0x5ab3db07df9059af0aa155ed3d69cd6217c4d7541437f30f8b4a62d114a2c312d6547711870a65f2429b060d func154
def LR:aB E ⟨92,[.v bx,.v bx],[bx],wN⟩:=aE (ah sS (ah T4 (ah q5 aD))) 0xe288c107e39c112656ecf62607a8de5b2b231883fd56f8c90554506d1a3ed3dbbe84c73753060d func92
def Vg:aB E ⟨27,[.v bo,.v bo],[bo],AF⟩:=aE (ah LR (ah nq (ah q6 (ah vd aD)))) 0xb37795bb476fb40cb0a149fd406ed9753694f65056bb3569f4da3886e423d06df02b302d7e52b191579fab59a437650dbc569171ac7ba4ba5a353060d func27
def LK:aB E ⟨62,[.v bO,.v bO],[bo],uB⟩:=aE (ah Vg (ah Cb aD)) 0xc48060d func62
def Ls:aB E ⟨26,[.v bo],[bo],uy⟩:=aE (ah LQ (ah nq (ah q6 aD))) 0x4de366eff100be544f8a38b13e96ed3a3536c0d func26
def Vy:aB E ⟨295,[.m jG,.v dN,.v aC,.v bO],[.bool],wR⟩:=aE aD 0x9580972350e505b5ed86f23894c490c035cf27390ea15fd25c7bedef6bb9af164192b2fd494a23ec848c3fc61d0785fc17f3048ebc29b6c38a1d func295
def Vo:aB E ⟨281,[.v dN,.v dN],[jG,dN],Ay⟩:=aE (ah Vy (ah Lz (ah FG (ah K6 (ah K5 (ah sS aD)))))) 0x10030a661889c696929f11751f11a1074eeecb40ccb6185caaa69c65de8d02af5c8ad7c3ada8310798387b4fc6760442541cfdcc841408b7aa4b0005bc756ac07784bf3bfb2041ff764ab451237642eeb157a2f76916e989ab7f9572c12fd09144376ae61f132820e232fbfd66ce941ce999e183ebce750674382ea6db060d func281
def Lt:aB E ⟨260,[.v bx,.v bx],[bx,bx],wL⟩:=aE (ah x0 (ah ve (ah nr (ah Vo (ah xV (ah FH (ah q5 (ah xT aD)))))))) 0x30e09c6c90f1e70484c195c936edd899cf270af7a71ee86ac9b72798e75c9567854fcc6cbe5057531e509956c90c9e11e27c23040c7679c2fe9f56e5ac9a0fe103d84f58b69498d31837dbce7b61dbc889dc29f37ca4648bc569171ac7ba4ba5a353060d func260
def FI:aB E ⟨163,[.v bx,.v bx],[aC],uu⟩:=aE (ah nr (ah FH aD)) 0xb1d628060d func163
def Vb:aB E ⟨259,[.v bx],[bx],Aw⟩:=aE (ah sT (ah ve (ah nr (ah Lt (ah FI (ah xV (ah xU aD))))))) 0x5c661a6a923ae63d6d7f8451fcad994f9213e17d5a83426ea6c0d func259
def UD:aB E ⟨209,[.v bx,.v aC,.v aC],[bx,aC,.bool],AH⟩:=aE (ah sT (ah LR (ah Vb (ah FI (ah xU aD))))) 0x111627a910cab4c83a5784c74df35552c391d3f441f3b864cb26c2860d func209
def TX:aB E ⟨133,[.v bo,.v aC],[bO],AM⟩:=aE (ah nr (ah nq (ah UD (ah FD aD)))) 0x4c201878d09b060d func133
def VT:aB E ⟨63,[.v bo],[bO],w6⟩:=aE (ah TX aD) 0x78600d func63
def LL:aB E ⟨64,[.v bo],[aC],wS⟩:=aE (ah nr (ah nq aD)) 0xd func64
def VU:aB E ⟨65,[.v bO],[.bool],AY⟩:=aE aD 0xd func65
def UE:aB E ⟨210,[.v bx,.v bx,.v aC],[bx,aC,.bool],AG⟩:=aE (ah sT (ah nr (ah Lt (ah xU aD)))) 0x61502de52571b8b6338b88ce4bab90dd5954f761c98bff470f1566ea6c2860d func210
def TY:aB E ⟨134,[.v bo,.v bo,.v aC],[bO],AL⟩:=aE (ah x0 (ah nr (ah nq (ah UE (ah FD aD))))) 0x1a966290899c3cf8668f1eb4e805017dafd52769e7161a4d02bcf0792d67b8db2a141d202d2ede8d4c2860d func134
def VV:aB E ⟨66,[.v bo,.v bo],[bO],AZ⟩:=aE (ah TY aD) 0xf1de28060d func66
def K1:aB E ⟨14,[.v gX,.v dD],[y4,aC,aC],qx⟩:=aE (ah xX (ah VV (ah VU (ah LL (ah VT (ah LK (ah LJ (ah LI (ah FV (ah Ly (ah Ls (ah Cb (ah Un aD))))))))))))) 0x156227453de34a21bce6fe0c2a7a08bdb35c193979769ba34d07470925991e6a3640a7628c1a80118d0d5a43897fe7dc0c291126ffc292700637e5a76a759e469f6d2431f98c27be0f2fc46bd6d683359d021e0f8c2933af822d095455afad40a2b5520a14afa0872a57f68a2e5727f6329b8aff12dcbd2b305df312098ee4d80690c256dc34be52c5727eac620818f3d787efa2cf0f6ffe9d9f7454d99451f5fe1bbea9a3aa0686c5fcaa093f8dc60fd7975438b42ddfda0f53634fb694e3b4d0ddff8b3a9df13c8b0719a240835875d608df5069488a4617a8d66e5416c91ce6878536db060d func14
def T3:aB E ⟨15,[.v ly,.v ly],[.bool],wJ⟩:=aE (ah LF (ah Le aD)) 0x7c1c0f828060d func15
def V2:aB E ⟨82,[.v dD],[.bool],zw⟩:=aE aD 0x432840425ebe0e4510fca803730d3ab114c8ffaf0a6c0d func82
def V3:aB E ⟨83,[.v ly],[.bool],zy⟩:=aE aD 0x423ba845bb2afca92a3024ca29c74a5927dbfbbfc1a3c02a5a6c0d func83
def Lo:aB E ⟨23,[.v ly],[aC],rT⟩:=aE (ah vc (ah xZ (ah Cd (ah V3 (ah V2 aD))))) 0xb09f16a766e7cf31e8d88a8875dbfa57044117e89d6809a7de922c2a5a6c0d func23
def LS:aB E ⟨97,[.v bo,.v bo],[bx,bx,aC],qt⟩:=aE (ah sT (ah nr aD)) 0x424c9850bce04b6779195ff90dc071a6612a8f965f213bd417b6307c71a00e450883615928d97be4f301841b0d8c0fb737e2abf97673addc1efa06161f4793c1b95b1df7b488a0d4fff140f2e52b753060d func97
def VH:aB E ⟨32,[.v bo,.v bo],[bo],AB⟩:=aE (ah LS (ah ve (ah nq (ah q6 (ah vd aD))))) 0xf6659f6107d7d06df02b69d7be52b191579fab59a437650dbc569171ac7ba4ba5a353060d func32
def VF:aB E ⟨31,[.v bo,.v bo],[bo],AI⟩:=aE (ah VH (ah Ls aD)) 0x8c0f2c1a0004bcf2b753060d func31
def V5:aB E ⟨98,[.v bo,.v bo],[aC,.bool],AC⟩:=aE (ah LS (ah nq (ah FI aD))) 0x7c667e725e0e056f9fa65631f7ab4cc7650dbc569171ac7ba4ba5a353060d func98
def TB:aB E ⟨100,[.v ly],[aC],zx⟩:=aE (ah Lo aD) 0x3e0600d func100
def T9:aB E ⟨165,[.v dD,.v aC,.v aC],[.bool],A1⟩:=aE aD 0x1285ec7824c2860d func165
def KT:aB E ⟨101,[.v ly],[aC],sa⟩:=aE (ah xX (ah LL (ah Cb (ah T9 (ah KZ aD))))) 0xfb7a84c59e1b36a5515c3788644b41e9412d8b3f8fde939e8a207efabe89d6809b9de922c2a5a6c0d func101
def TC:aB E ⟨102,[.v ly,.v aC,.v aC],[bO],A3⟩:=aE aD 0x45cfc00c5942de14c2860d func102
def VJ:aB E ⟨37,[.v ly],[vV,aC],A0⟩:=aE (ah TC (ah KT aD)) 0x430649f6ce330bda73220a300b3a8f36f3220a56e284b747bfd5ea7263e484b283b4200feeaa216beaee6e5f2fc287a5e46bcc5c2be6e4a7e9cc333961bfc5458b363a6765b75ea96ee6647e51c3d6326691095e14db6c0d func37
def VK:aB E ⟨38,[.v ly],[n1,aC],zu⟩:=aE (ah vc (ah FA (ah Fz (ah TB aD)))) 0x3878eb3b2e83d61fd7806fb3971849b7a57dc178a08d8dc3b589ad6ce917268f4472bd386ce394ce767f014a4a55b0912b7b20cb8942e2861cb467a6bc940af6686c84ec78268e513535f8a02b75c98f07569790445909d51a44eb12c334dc6101513fec92e8db2d019f6a314fc46a428fdc394f575f561a302dce5f28e59b3157e4e82c02931384c890e6199bb40cc182a2c59b10304ccf396e66aeeb2b77332311d2731e02a99334a9612bc29b6c0d func38
def KU:aB E ⟨105,[.v aC,.v aC],[n1],w5⟩:=aE aD 0x1155c48060d func105
def VL:aB E ⟨39,[.v ly],[n1,aC],A2⟩:=aE (ah LK (ah VJ (ah Ly (ah KU aD)))) 0x56e4ff2465833a1f069c8882659ef7779471597296bd26c52d39387f9151ca0dce465ed2a189410e9e137a6d876cedc6299cc370e9c9bcebe73867b25a0415d95b65ee7270ea3c0c1361987010e4d4bb03264a26c555c257f97fa938991f186beb4a98ffbaa70d067e0a4baf2ae37c9b75317517b0ef21e09bb3377c5d3afa60af7833e6c7b8ecb5a83cae00cc8c6b5068d98f64d5b19a451e14db6c0d func39
def LA:aB E ⟨40,[.v gX,.v dD],[n1,aC],o5⟩:=aE (ah FU (ah FB (ah xR aD))) 0x91f7168f6d693d28c108d7f273563b84d52d4a23cc51a5f7d3f9f5e365bb552d6138b2377206fefecfb904e38a21638b5da16502db96a8f15637162914704d0af341fc5798d2b1707bf0509189da384b3215c68909d32178bac661e6861dc2a81def2cb09f6946c23a58ef9566ea6db060d func40
def LB:aB E ⟨41,[.v gX,.v dD],[n1,aC],pg⟩:=aE (ah LJ (ah FV (ah KU aD))) 0x1ee61fff4fe9eee4f98a31cd1016fc451b8fba042657cd4af98bbccd8d36eddf4cceec7de89049d96b5199a44a2918d999b70e1b245a878536db060d func41
def TD:aB E ⟨108,[.v aC],[bo],zF⟩:=aE (ah xS (ah B3 aD)) 0x30a00d func108
def K9:aB E ⟨174,[.v bo,.v bo],[bx,bx,aC],wo⟩:=aE (ah vb aD) 0x6debc28c956c0dd33bbb83df416ea3999ba9b060d func174
def K8:aB E ⟨172,[.v bo,.v bo],[bo],wj⟩:=aE (ah K9 (ah B5 (ah B4 (ah FJ (ah xS aD))))) 0x19e334c48060d func172
def TG:aB E ⟨110,[.v bo,.v bo],[bo],zK⟩:=aE (ah FL (ah K8 aD)) 0x8c0f2c1a0004bcf2b753060d func110
def TE:aB E ⟨109,[.v bo],[bo],zE⟩:=aE (ah FK (ah q4 aD)) 0x123c030f612331ba6c0d func109
def TH:aB E ⟨111,[.v bo,.v bo],[aC,.bool],wk⟩:=aE (ah FM (ah K9 (ah FJ aD))) 0x344678060d func111
def VM:aB E ⟨42,[.v gX,.v ly],[bo,aC],rU⟩:=aE (ah LA (ah VK (ah Lo (ah TH (ah TG (ah TE (ah TD aD))))))) 0x657b44c489ccd0fb024b0ce2d19a685eb1205d1b602dd45b3a417c1e12c9cdc24b72236e42a7b79b61987ea358c7b639c49adbdfc07bf4c3f7b55c833de48eb9ce815291148cd146a9c8d52d6362caa0bdbab64829b3c29b6db060d func42
def Ub:aB E ⟨176,[.v bo,.v bo],[.bool],w4⟩:=aE (ah V5 aD) 0xf1de28060d func176
def TI:aB E ⟨112,[.v mV,.v mV],[bo],D6⟩:=aE (ah VF (ah VB (ah Ub aD))) 0x120118151f73972bb5240dabdd2d6b5ceba4c8e6d58cc2c7ea567dd55cb2151b9148cc858da65ed921543c29b060d func112
def VN:aB E ⟨43,[.v gX,.v ly],[bo,aC],sb⟩:=aE (ah LB (ah VL (ah TI (ah KT aD)))) 0xf231f0f423ffc0157c3e1e847ff8178982f0f31207c1e028060d func43
def UK:aB E ⟨229,[.v dN,.v dN],[.bool],D4⟩:=aE aD 0x620a429b060d func229
def Uc:aB E ⟨177,[.v bx,.v bx],[.bool],D2⟩:=aE (ah UK aD) 0xb1d628060d func177
def TJ:aB E ⟨113,[.v bo,.v bo],[.bool],D3⟩:=aE (ah Uc aD) 0xf1de28060d func113
def LC:aB E ⟨46,[.v bo,.v bo],[.bool],r5⟩:=aE (ah nq (ah TJ aD)) 0xf1de28060d func46
def VO:aB E ⟨45,[.v mV,.v mV],[.bool],ur⟩:=aE (ah LC aD) 0x3596fab2c38049878ff2d1e015453060d func45
def Vs:aB E ⟨286,[.v bO,.v bO],[bO,bO],z7⟩:=aE aD 0x60d func286
def Vf:aB E ⟨268,[.v bO,.v bO],[bO,bO],DQ⟩:=aE (ah Vs aD) 0x60d func268
def UM:aB E ⟨232,[.v dD,.v aC],[h1],Al⟩:=aE (ah Vf aD) 0x4f1df1c7b43d69ee5cbeb6acff078e0b6c79603b14c9a29972590773e51e39053060d func232
def Ud:aB E ⟨179,[.v jH,.v aC],[h1,.bool],A4⟩:=aE (ah UM aD) 0x8a577a4915c00aa6a9247576627386d846718613a822be88c5866006e60ebb93013c46523febc29b060d func179
def Ui:aB E ⟨182,[.v mb,.v aC],[.bool],A6⟩:=aE aD 0x23d66fc008624bdfe95654edcc34053e6b0a1e14db060d func182
def Uk:aB E ⟨184,[.v jH,.v dD,.v mb],[.bool],A5⟩:=aE (ah FO aD) 0x2a7b180181daa81aac5eb8bc29b6c2860d func184
def Uh:aB E ⟨181,[.v mb,.v (.ptr .dd aC)],[.bool],D7⟩:=aE (ah Ui aD) 0x4b828060d func181
def UN:aB E ⟨233,[.v jH,.c 181 [(.ptr .dd aC)]],[aC],DU⟩:=aE (ah Uh aD) 0x3195177853060d func233
def Uf:aB E ⟨180,[.v jH,.c 181 [(.ptr .dd aC)]],[.bool],Ah⟩:=aE (ah UN aD) 0x60d func180
def Uj:aB E ⟨183,[.v mb,.v (.ptr .bB jH),.v (.ptr .dd dD)],[.bool],D8⟩:=aE (ah Uk aD) 0x12e0e02860d func183
def UO:aB E ⟨233,[.v jH,.c 183 [(.ptr .bB jH),(.ptr .dd dD)]],[aC],DV⟩:=aE (ah Uj aD) 0x3195177853060d func233
def Ug:aB E ⟨180,[.v jH,.c 183 [(.ptr .bB jH),(.ptr .dd dD)]],[.bool],Ai⟩:=aE (ah UO aD) 0x60d func180
def TK:aB E ⟨114,[.v iN,.v jH],[aC],sc⟩:=aE (ah FO (ah Ud (ah FN (ah Ug (ah Uf aD))))) 0x302a1d813c451c9e409c749f76f957f31609d78268caf65751e1194a083817c095ee1ac0bd73d784ece531e9c3d2cdb68776d625924cdf0e85fd0587d05d021347c82252d55954536db060d func114
def La:aB E ⟨186,[.v dD,.v aC],[aC],DY⟩:=aE aD 0x3195177853060d func186
def UR:aB E ⟨238,[.v aC,.v aC,.v aC],[aC],ID⟩:=aE aD 0xe45cd62513734c2860d func238
def Ca:aB E ⟨237,[.v bo],[.bool],wm⟩:=aE (ah q4 aD) 0x18778600d func237
def Lb:aB E ⟨188,[.v mV],[aC],zC⟩:=aE (ah UR (ah Ca aD)) 0x378e3b8d8019ea9db0f0a6c0d func188
def UQ:aB E ⟨236,[.v dD,.v aC],[.bool],IC⟩:=aE aD 0x42b730c7146777853060d func236
def Ul:aB E ⟨187,[.v mV,.v dD,.v mV],[n1,aC],Iy⟩:=aE (ah Ca (ah UQ (ah Lb (ah K8 (ah xR aD))))) 0x668b563b6666b3586218c091ce2e78a8745777bf61bbac5092b9ad898555baed2a1e96855856dd43a3d603dbbcb239fa0273fc47f33fe86317570afd36804d7e1f1ee36ac316045d49c1909f8852fc4edf45062e16e5807c783c00ff15296d1b55bc97abbb6b89dc3ae1a16e45e50d203eabf75dbc36ea5e2223f6609c7ca843906163095520a3cf9cdee438858fca3990871df4926b4b0ca09c251a13451afb00f1eb013d88aa0ebae1a749a15d36c2860d func187
def TL:aB E ⟨115,[.v vY,.v mb,.v jH,.v (.a5 .dd mV)],[n1,aC],IE⟩:=aE (ah Ul (ah La (ah FB aD))) 0x4eb4d381b3f8d28d5f83d87144fc1133a6d6ae23096bd948910325f4233acd3070ffe33d9e03de57c0382b493c7e899c9713b42979a8481aace1652fb606e770c17cd048ff2ab27aeafbad49e0c330b58671210ffbb774500f3cd4c0383fc5638ca9b935a4ae3c5e279f56a67e047b31cd5c5d45c486fe65ef1ecb77fbba5eb3e9a7a2648477374765ad53e8d48d24638a6ce5417891fc5e14db0e2860d func115
def Lq:aB E ⟨239,[.v (.ptr .dd (.st (.pr mV (.pr y1 (.pr (.a5 .dd bo) .nil))))),.v aC,.v aC,.v aC],[bo],zD⟩:=aE (ah FL (ah FA (ah Fz aD))) 0xbeb76a5baff835ff1db9fbb4d7e90d6277953b18d16d527a8b4f22fde4456efae729db14508ef04df78d411e77bc40632d107451bc2c1243415a9f555a00ce0aac7cf62db65e73fa14bf6ce4a4dab3337530e2860d func239
def US:aB E ⟨240,[.m Dg,.v aC,.v aC,.v bO],[.bool],DM⟩:=aE (ah vc (ah Cd aD)) 0xb30bc87b1a73772eb99527f6ca369f363fb268d6f22abd93310db3b198d662a918dcbe4b9eeb0c3bd88bc5f98652a86b0775be0234c6cab133a384da044d4c38a1d func240
def Um:aB E ⟨189,[.m Dg,.v aC],[aC],IA⟩:=aE (ah vc (ah xZ (ah US (ah Lq (ah Ca (ah KY (ah KW (ah KV aD)))))))) 0x378c05970904987740d62091478536db6c1d func189
def Uo:aB E ⟨190,[.v (.ptr .dd (.st (.pr mV (.pr y1 (.pr (.a5 .dd bo) .nil))))),.v aC],[n1,aC],IB⟩:=aE (ah Lq (ah Ca (ah xR aD))) 0x241ed08fad568d1e249fdd906760b536baae54a3edf5052b9160a0262ea236209bbe3c5b3b7bc1a279e71e72dcd41e69008a4c35a670f356c94cd1e14db060d func190
def TM:aB E ⟨116,[.v nZ,.v aC,.v aC],[vV,nZ,aC,aC],Iz⟩:=aE (ah Uo (ah Um (ah Lb aD))) 0x1f0a4378f6ae7dbfa840c069ca1db74e99c934e2bf60a73d433186b46993d43da3c97518f32205f491a122c3991690fa98a7448172404700ea76b255ecf72ef761c6a5648ceeb9ae45d0f9d3372189d69ad7619385e6fa8857077a1658350cce2588acce7e07736c3fabb4ec9f7840670a8b1d3bd34b6eb7556d42e9193b9ea3af3bac010f5ffc39d6f600c31177e173dcf29860445216ad068ec1dd3cfd05a277dbd6b3c3539bfe71f6e369a8f2a9ba5ef73009fe32baa7f40397c0ae78a074586a977271aa2af9ab934ba6c2860d func116
def TN:aB E ⟨117,[.m y5,.v mb,.v y1],[],Ix⟩:=aE (ah La aD) 0x275a14d5bb14a082617a4d7e22d648f7d14aaa77f56cbdc2ae2a1802231f3b5b35951d2d3db4ce05a3b86adf89262a218ef8e39faf0d0c5b760b0723f02fe74415899196c3a2cccb586fa3d75a43d22180c2d82330182c9a5b0a1d func117
def VP:aB E ⟨48,[.v gX,.v dD,.v jH],[tH,aC,aC],o3⟩:=aE (ah LH (ah LG (ah FU (ah TN (ah TM (ah TL (ah TK aD))))))) 0x5c949c5fffc7bd650e90ed8a67fab78d3dbfcc183d5f0fe7f6e62dc234ab47b687ec108892d84381bdc36443902041f30e4abee6f8151e29d8d799f627f76d62255e02cab327d68a62853908e535a3e7aa5807516288f2333f3eee7f2324e2484496b7dcb2f5f167a15088f042d526cc21933b1c9b3d0f79499a1f00f5669f97f88a77659a6277158e6573fdd6e80afe726e7930ea4f94d926e6e772cf920b0c2fea4a471262aa12f29f03e1e4f8b75b101c9c46fc0855cee6bf633ba93868cc15de134328b48d8a447b7e4504db790ffb6cdaab2e09fc2dfe5b056b1bea96ef0a9d9f3987486b89416dc40d99379d60908d178b6185af8fc904cc1cd54830f1f7761ae5354a6a03bcfdb4df6466eee2d4321110f4ddf422e17c38d7aeafc927e04ea3299940cfac3d0b22295ce8fbe7ff347ad59aee4dcce38a994835accabebc29b6c2860d func48
def UT:aB E ⟨241,[.v jH,.v aC],[aC],w3⟩:=aE aD 0xb37f85cf6b0c414853060d func241
def Up:aB E ⟨191,[.v iN,.v jH],[aC],r9⟩:=aE (ah Cc (ah UT (ah FC (ah K0 aD)))) 0x2ae58ecd82c41aa06e4c9878b2f2b25acc7a6ef8f99cc5911cfa735238c3174344edba94f5b3638490c0f4c8f2fd70998c9b289d0f0a6db060d func191
def TO:aB E ⟨118,[.v gX,.v dD,.v jH],[aC],uC⟩:=aE (ah LI (ah FV (ah Up aD))) 0x90fc00c7148536c2860d func118
def VQ:aB E ⟨49,[.v gX,.v dD,.v jH],[tH,aC,aC],qw⟩:=aE (ah K1 (ah TO aD)) 0x29047c3d08fff54d80e02860d func49
def tq:hV:=⟨10,[.v lz,.v aC,.v aC,.v aC,.v aC],[.bool],D5⟩
def TA:aB E tq:=aE (ah VR (ah FT (ah VQ (ah VP (ah LC (ah VO (ah VN (ah VM (ah LB (ah LA (ah VI (ah B6 (ah T3 (ah K1 (ah KX (ah TF aD)))))))))))))))) 0x31d325a4fbec84c038d561a66aa4202d5a2826014510ce7a62fcfed6b05a169af092134e58f62506afc48dca957cc0e3583ec3568983f2e8106a137790e761a46663402519f7f1972f43f58fc0ab7b66a144dcf09ffbb22a58386f5bc18c4ce59e25ee884811782045cb0b0ba6c48e2860d func10
end
def aI (a:Nat):Int:=4294967296^a
def ae:ac8->Int
 |[]=>0
 |x::a=>x+4294967296*ae a
def aN (b:ac8):Prop:=∀a∈b,0<=a/\a<4294967296
def aN.nil:aN []:=λ_ a=>by cases a
def aN.cons:aN (d::b)↔(0<=d/\d<4294967296)/\aN b:=by
 constructor
 ·exactλe=>⟨e d (jE ..),λc a=>e c (e1 _ a)⟩
 rintro⟨f,g⟩ c a;rcases dg.1 a with rfl|a
 ·exact f
 exact g c a
def aN.append {d:ac8}:aN (b++d)↔aN b/\aN d:=by
 constructor
 ·exactλe=>⟨λc a=>e c (mS _ a),λc a=>e c (kU _ a)⟩
 rintro⟨f,g⟩ c a;rcases dX.1 a with a|a
 ·exact f c a
 exact g c a
def aN.snoc (a:aN b) (c:0<=d) (e:d<4294967296):aN (b++[d]):=
 aN.append.2 ⟨a,aN.cons.2 ⟨⟨c,e⟩,aN.nil⟩⟩
def aN.take {a:ac8} (b:aN a) (d:Nat):aN (a.take d):=λe c=>b e (List.mem_of_mem_take c)
def aN.drop {a:ac8} (b:aN a) (d:Nat):aN (a.drop d):=λe c=>b e (List.mem_of_mem_drop c)
def aN.j8 (b:Nat):aN (List.replicate b (0:Int)):=λc a=>by obtain⟨_,rfl⟩:=List.mem_replicate.1 a;exact⟨l3 _,aa⟩
def aN.set {c:ac8} (d:aN c) {g:Nat} {b:Int} (e:0<=b) (f:b<4294967296):aN (c.set g b):=λh a=>by
 rcases List.mem_or_eq_of_mem_set a with a|rfl
 ·exact d h a
 exact⟨e,f⟩
def aN.get (a:aN b) {n:Nat} (c:n<b.length):0<=b[n]/\b[n]<4294967296:=a _ (bD c)
def dQ (a:Nat):0<aI a:=mQ aa
def fY (a:Nat):aI (a+1)=4294967296*aI a:=by unfold aI;rw[Int.pow_succ,gV]
def ro (a b:Nat):aI (a+b)=aI a*aI b:=ja ..
def vE:aI 0=1:=rfl
def j4 (a b:ac8):ae (a++b)=ae a+aI a.length*ae b:=by
 induction a with
 |nil=>simp[ae,vE]
 |cons d a c=>
  simp only[jc,ae,hX,fY,c];grind
def oI (a:ac8) (b:Int):ae (a++[b])=ae a+aI a.length*b:=by rw[j4];simp[ae]
def dw {l:ac8} (a:aN l):0<=ae l:=by
 induction l with
 |nil=>exact l3 _
 |cons c l b=>
  have a:=aN.cons.1 a;have:=b a.2;simp only[ae];omega
def fb (a:aN b):ae b<aI b.length:=by
 induction b with
 |nil=>decide
 |cons d b c=>
  have a:=aN.cons.1 a;have:=c a.2;simp only[ae,hX,fY];omega
def fV (c:a<b.length):ae (b.take (a+1))=ae (b.take a)+aI a*b[a]:=by rw[hD,a9 c];show ae (b.take a++[b[a]])=_;rw[oI,dS,fr U]
def mN (b:ac8) (a:Nat) (c:a<=b.length):ae b=ae (b.take a)+aI a*ae (b.drop a):=by
 conv=>lhs;rw[<-ku a b]
 rw[j4,dS,fr c]
def j5 (c:a<b.length):ae (b.drop a)=b[a]+4294967296*ae (b.drop (a+1)):=by rw[C6 c];rfl
def nD (a:Nat):ae (List.replicate a (0:Int))=0:=by
 induction a with
 |zero=>rfl
 |succ a b=>simp only[List.replicate_succ,ae,b];rfl
def kM (c:a<b.length) (d:Int):ae (b.set a d)=ae b+aI a*(d-b[a]):=by
 induction b generalizing a with
 |nil=>simp at c
 |cons f b e=>
  cases a with
  |zero=>simp only[List.set_cons_zero,ae,vE,List.getElem_cons_zero];grind
  |succ a=>
   simp only[List.set_cons_succ,ae,List.getElem_cons_succ,fY];rw[e (by simpa using c)];grind
def sk:Nat->Nat->ac8
 |0,_=>[]
 |f+1,a=>if a=0 then[] else((a %4294967296:Nat):Int)::sk f (a/4294967296)
def bK (a:Nat):ac8:=sk (Nat.log2 a+1) a
def dp (b:ac8):Prop:=∀a,b.getLast?=some a->a≠0
def Qy:∀{a n:Nat},n<2^a->aN (sk a n)/\ae (sk a n)=n/\dp (sk a n):=by
 intro a
 induction a with
 |zero=>
  intro n b;obtain rfl:n=0:=(by simpa using b);exact⟨aN.nil,rfl,λf b=>by cases b⟩
 |succ a j=>
  intro n b;unfold sk;split
  ·rename_i h;subst h;exact⟨aN.nil,rfl,λf b=>by cases b⟩
  rename_i k;obtain⟨i,d,g⟩:=j (n:=n/4294967296) (by rw[je] at b;omega);refine⟨aN.cons.2 ⟨⟨U,U⟩,i⟩,?_,?_⟩
  ·simp only[ae,d];omega
  intro f c;cases e:sk a (n/4294967296) with
  |nil=>
   rw[e] at c d;simp only[ae] at d;simp only[List.getLast?_singleton,bF] at c;omega
  |cons m l=>
   rw[e,List.getLast?_cons_cons] at c;rw[e] at g;exact g f c
def Eh (a:Nat):aN (bK a)/\ae (bK a)=a/\dp (bK a):=Qy Nat.lt_log2_self
def ix (a:Nat):aN (bK a):=(Eh a).1
def jP (a:Nat):ae (bK a)=a:=(Eh a).2.1
def mq (a:Nat):dp (bK a):=(Eh a).2.2
def dp.tail (c:dp (d::b)):dp b:=λe a=>by
 cases b with
 |nil=>cases a
 |cons f b=>exact c e (by rw[List.getLast?_cons_cons];exact a)
def dp.zero (e:aN b) (c:dp b) (d:ae b=0):b=[]:=by
 induction b with
 |nil=>rfl
 |cons h b g=>
  obtain⟨⟨i,j⟩,a⟩:=aN.cons.1 e;have k:=dw a;simp only[ae] at d;have f:h=0:=U;have:=g a c.tail U;subst this;subst f;exact absurd rfl (c 0 rfl)
def dp.uniq:∀{a b:ac8},aN a->aN b->dp a->dp b->ae a=ae b->a=b
 |[],b,_,e,_,g,c=>(dp.zero e g (by rw[<-c];rfl)).symm
 |a,[],d,_,f,_,c=>dp.zero d f (by rw[c];rfl)
 |x::a,k::b,d,e,f,g,c=>by obtain⟨⟨l,m⟩,h⟩:=aN.cons.1 d;obtain⟨⟨n,o⟩,i⟩:=aN.cons.1 e;simp only[ae] at c;have j:x=k:=U;have:=dp.uniq h i f.tail g.tail U;rw[j,this]
def QB (c:aN b) (d:dp b) (e:ae b=a):b=bK a:=
 dp.uniq c (ix a) d (mq a) (by rw[e,jP])
def dp.eq (a:aN b) (c:dp b):b=bK (ae b).toNat:=
 QB a c (by have:=dw a;omega)
def dp.low (c:aN b) (f:dp b) (a:b≠[]):aI (b.length-1)<=ae b:=by have d:=List.dropLast_concat_getLast a;have i:=f (b.getLast a) (List.getLast?_eq_some_getLast a);have j:=c _ (List.getLast_mem a);rw[<-d,oI];have k:=dw (l:=b.dropLast) (λh g=>c h (List.dropLast_subset _ g));have e:1<=b.getLast a:=U;have m:=hW e (dM (dQ b.dropLast.length));simp only[lu,yR,tE];omega
def Wy {c:Nat} (e:a<c):aI a<aI c:=by obtain⟨b,rfl⟩:∃b,c=a+(b+1):=⟨c-a-1,U⟩;rw[ro,fY];have f:=dQ b;have d:=dQ a;have g:1*aI a<(4294967296*aI b)*aI a:=pZ U d;grind
def nu {m n:Nat} (b:m<=n):aI m<=aI n:=by
 rcases bn m n with a|a
 ·exact dM (Wy a)
 obtain rfl:m=n:=U;exact l3 _
def pj {n k:Nat} (d:(n:Int)<aI k):(bK n).length<=k:=by
 by_cases b:bK n=[]
 ·rw[b];exact bM _
 have c:=dp.low (ix n) (mq n) b;rw[jP] at c;rcases bn k (bK n).length with a|a
 ·have:=nu (m:=k) (n:=(bK n).length-1) U;omega
 exact a
def I2 (a:Nat):(a:Int)<aI (bK a).length:=by have:=fb (ix a);rwa[jP] at this
def Ei:bK 0=[]:=rfl
def Eg:bK a=[]↔a=0:=by
 constructor
 ·intro b;have:=jP a;rw[b] at this;simp only[ae] at this;omega
 rintro rfl;rfl
def fD (a:ac8):ac8:=bK (ae a).toNat
def No (g:aN b) (h:a<=b.length) (f:∀c,a<=c->(j:c<b.length)->b[c]=0) (i:dp (b.take a)):b.take a=fD b:=by have d:ae b=ae (b.take a):=(by have e:b.drop a=List.replicate (b.length-a) 0:=(by refine List.ext_getElem ab λc d e=>?_;rw[List.getElem_drop,List.getElem_replicate];exact f _ U _);rw[mN b a h,e,nD];simp);rw[fD,d];exact dp.eq (g.take a) i
def GH (a:ac8):aN (fD a):=ix _
def Nn (a:ac8):dp (fD a):=mq _
def GI (a:aN b):ae (fD b)=ae b:=by have:=dw a;rw[fD,jP];omega
def Nm (a:aN b):(fD b).length<=b.length:=by have c:=fb a;have:=dw a;exact pj U
def RA {b d:List c} (g:b.length=d.length) (f:∀a,a<b.length->b[a]?=d[a]?):b=d:=by
 apply gK;intro a;rcases bn a b.length with e|e
 ·exact f a e
 rw[fc e,fc U]
def tv (a c:ac8) (o:a.length<4611686018427387904):r6 (a,c,())=some (a==c,()):=by
 rw[<-ac.eq_iff];unfold r6;simp only[ac.bS,ac.bT,ac.af];refine⟨λd=>?_,λd=>?_⟩
 ·simp at d;have:a≠c:=λf=>d (by rw[f]);simp[this]
 simp at d;have m:a.length=c.length:=U;refine ac.for (i0:=0) a.length (λe _=>∀b,b<e->a[b]?=c[b]?) rfl ab (bM _) ?_ ?_
 ·intro e n _ k g;simp only[ac.bS,ac.bT,ac.af,ac.hy];refine⟨λ_=>⟨k,U,λl=>?_,λj=>?_⟩,λh=>?_⟩
  ·simp at l;have:a≠c:=λf=>l (by simp[f]);simp[this]
  ·refine⟨fm U,λb p=>?_⟩;rcases bn b e with i|i
   ·exact g b i
   obtain rfl:b=e:=U;simp at j;rw[a9 k,a9 U,j]
  simp at h;omega
 intro n g;simp only[ac.bS,ac.bT,ac.af];refine⟨λh=>by simp at h,λ_=>?_⟩;simp[RA m g]
def mJ {b:List c} (d:a<b.length):b.take a++[b[a]]=b.take (a+1):=by rw[hD,a9 d];rfl
def x3:b.Pairwise (· < ·)↔∀d,(e:d+1<b.length)->b[d]<b[d+1]:=by
 constructor
 ·intro e d k;exact(ga.1 e) d (d+1) U k U
 intro e;rw[ga];have m:∀c a (f:a<b.length) (g:a+c+1<b.length),b[a]<b[a+c+1]:=by
  intro c
  induction c with
  |zero=>intro a f g;exact e a g
  |succ c l=>
   intro a f g;have i:=l a f U;have j:=e (a+c+1) U;exact Int.lt_trans i j
 intro a h f g n;obtain⟨c,rfl⟩:∃c,h=a+c+1:=⟨h-a-1,U⟩;exact m c a f g
def GY (b:ac8) (r:b.length<4611686018427387904):wK (b,())=some (decide (b.Pairwise (· < ·)),()):=by
 rw[<-ac.eq_iff];unfold wK;simp only[ac.bT];by_cases k:b.length=0
 ·have:b=[]:=C7.1 k;subst this;refine ac.loop (λo=>o=(1,())) (λ_=>0) rfl ?_;rintro _ rfl;simp[ac.af]
 refine ac.for (i0:=1) b.length (λc _=>∀a,(j:a+1<b.length)->a+1<c->b[a]<b[a+1]) rfl (λa _ j=>by omega) U ?_ ?_
 ·rintro c _ p l e;simp only[ac.bS,ac.bT,ac.af,ac.hy];have i:IntKind.i64.wrap ((c:Int)-1)=((c-1:Nat):Int):=(by rw[wrap64 U U];omega);rw[i];refine⟨λ_=>⟨l,?_⟩,λf=>?_⟩
  ·rw[ac.hy];refine⟨U,?_⟩;refine⟨λm=>?_,λh=>⟨fm U,λa d q=>?_⟩⟩
   ·have:¬b.Pairwise (· < ·):=λn=>by
     have:=x3.1 n (c-1) U;simp only[(U:c-1+1=c)] at this;simp at m;omega
    simp[this]
   rcases bn (a+1) c with g|g
   ·exact e a d g
   obtain rfl:c=a+1:=U;simp at h;exact h
  simp at f;omega
 intro s e;simp only[ac.bS,ac.bT,ac.af];refine⟨λf=>by simp at f,λ_=>?_⟩;have:b.Pairwise (· < ·):=x3.2 (λa d=>e a d d);simp[this]
def mark (a:ac4) (c:ac8):ac4:=c.foldl (λa b=>a.set b.toNat true) a
end Go.ia
end
