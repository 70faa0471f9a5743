/-
  Parts of the proof: Ok24, Pa1, Pl2, Pl3, Pl5, Th1, Pl6, Pl7, Pl8, Pl9, Pl10, Pl12, ThT, Pa2, Pa3, Pa4, Pa5, Pa6, Pa7, Pa8, Pa9, Pa10, Pa11, Pa12, Pa13, Pa14, Pa15: the framework (Fw), pure forms (Dn), plain laws (Pl, Th), calls of functions (Ok).
-/
import Derived.Test.YtkhcdgkdpjahpaaGreatDoorProg
import Derived.KernelRfl
import Derived.Test.YtkhcdgkdpjahpaaGreatDoorB0b462bbf

set_option linter.all false
noncomputable section
namespace Go.mz
section
open Go.Proofs
abbrev e6:au:=(.int .u32)
abbrev dM:au:=(.bM .cL e6)
abbrev bO:au:=(.st (.pr .bool (.pr dM .nil)))
abbrev aO:au:=(.int .i64)
abbrev cj:au:=(.st (.pr .bool (.pr bO (.pr aO .nil))))
abbrev dL:au:=(.osl aO)
abbrev cf:au:=(.int .u64)
abbrev Wz:au:=(.pr dL (.pr dL (.pr (.osl cf) .nil)))
abbrev gd:au:=(.bM .eN aO)
abbrev pM:au:=(.bM .eN cf)
abbrev WB:au:=(.pr gd (.pr gd (.pr pM .nil)))
abbrev hW:au:=(.bM .cL aO)
abbrev WC:au:=(.pr hW (.pr hW (.pr (.bM .cL cf) .nil)))
abbrev rl:au:=(.osl cj)
abbrev qn:au:=(.osl (.osl cf))
abbrev sp:au:=(.optr (.st (.pr (.bM .cL hW) (.pr qn (.pr (.osl (.mp cj)) (.pr (.osl dL) .nil))))))
abbrev Kj:au:=(.st (.pr aO (.pr aO (.pr (.bM .cL cj) .nil))))
abbrev n8:au:=(.st (.pr aO (.pr aO (.pr cf .nil))))
abbrev mD:au:=(.st (.pr aO (.pr aO Wz)))
abbrev ez:au:=(.optr mD)
abbrev g4:au:=(.st (.pr (.bM .cL hW) .nil))
abbrev nm:au:=(.st (.pr (.bM .eN gd) .nil))
abbrev jS:au:=(.st (.pr aO (.pr aO WB)))
abbrev vA:au:=(.st (.pr hW WC))
abbrev ix:au:=(.osl .bool)
abbrev hV:au:=(.osl ix)
abbrev n9:au:=(.st (.pr aO (.pr aO WC)))
abbrev kO:au:=(.st (.pr (.osl hW) .nil))
abbrev cu:au:=(.osl e6)
abbrev pL:au:=(.st (.pr .bool (.pr bO (.pr aO (.pr .bool .nil)))))
abbrev rm:au:=(.st (.pr dL Wz))
abbrev ka:au:=(.optr rm)
abbrev hm:au:=(.optr cj)
abbrev WA:au:=(.st (.pr aO (.pr aO (.pr (.bM .cL cf) .nil))))
abbrev fR:au:=(.ptr .cL bO)
abbrev dV:au:=(.optr bO)
abbrev PF:au:=(.st (.pr gd WB))
abbrev rk:au:=(.optr (.st (.pr dL (.pr dL .nil))))
abbrev z9:au:=(.optr (.st (.pr aO (.pr g4 (.pr (.osl (.mp cj)) .nil)))))
abbrev np:au:=(.ptr .cL jS)
abbrev fI:au:=(.osl n8)
abbrev t5:au:=(.ptr .cL cj)
abbrev Kk:au:=(.ptr .eN (.st (.pr aO (.pr nm (.pr (.bM .eN (.ey .eN cj)) .nil)))))
abbrev xR:au:=(.optr (.st (.pr hV (.pr ix .nil))))
abbrev mE:au:=(.ptr .cL nm)
abbrev WD:au:=(.optr vA)
abbrev WE:au:=(.ptr .cL PF)
def tt:List (Nat×au):=[(3,aO),(4,.bool),(5,(.int .u8)),(9,.str),(22,(.bM .cL cf)),(23,hW),(25,(.bM .cL cf)),(27,n9),(31,vA),(39,(.bM .cL hW)),(41,g4),(50,cf),(51,cf),(55,dM),(57,bO),(59,cj),(62,(.bM .cL cj)),(71,WA),(75,Kj),(84,(.bM .cL (.st (.pr aO (.pr aO (.pr hW (.pr aO .nil))))))),(90,(.st (.pr aO (.pr aO (.pr hW (.pr aO .nil)))))),(102,(.bM .cL (.ey .cL cj))),(104,(.st (.pr aO (.pr g4 (.pr (.bM .cL (.ey .cL cj)) .nil))))),(109,(.bM .cL (.bM .cL cf))),(117,(.bM .cL n8)),(120,n8),(122,(.bM .cL (.bM .cL .bool))),(124,(.bM .cL .bool)),(132,cf),(139,e6),(149,(.bM .cL (.bM .cL cj))),(155,(.bM .cL (.bM .cL (.st (.pr aO (.pr aO (.pr hW (.pr aO .nil)))))))),(156,(.bM .cL (.bM .cL Kj))),(158,(.bM .cL Kj)),(166,(.ey .cL cj)),(168,(.st (.pr (.bM .cL hW) (.pr (.bM .cL (.bM .cL cf)) (.pr (.bM .cL (.ey .cL cj)) (.pr (.bM .cL hW) .nil)))))),(175,(.st (.pr (.bM .cL (.bM .cL .bool)) (.pr (.bM .cL .bool) .nil)))),(206,(.st (.pr Kj (.pr WA (.pr (.bM .cL cj) .nil))))),(212,(.bM .cL (.bM .cL .bool))),(223,pL),(254,(.st (.pr hW (.pr hW .nil)))),(306,cf)]
theorem afa:∀T τ,aD tt T=some τ->eB Tryz.prog τ T:=afb (by kernel_rfl)
def E:eV:={P:=Tryz.prog,tt:=tt,ok:=afa,mix:=by kernel_rfl,glob:=[⟨0,266,.u8,uc⟩],gok:=aoa afa (S:=5) (by kernel_rfl) (by kernel_rfl)}
def agO:bh:=⟨155,[.v dM],[cu],oY⟩
theorem BU:bg E agO:=
 .q bn (.k [0] (.n (.n (.t .none (.o (.p ⟨[(3,.v aO)],[]⟩ (.x 0 ⟨[(3,.v aO)],[]⟩) (.t (.cR [3] ⟨[],[]⟩) .l .l))) (.n (.t .none (.n (.o (.k [3] (.p ⟨[(4,.s (.ref 4 [])),(5,.v aO)],[(4,cu)]⟩ (.x 2 ⟨[(4,.s (.ref 4 []))],[(4,cu)]⟩) .l)))) .l)))))) Tryz.func155 Tryz.call155 [(4,cu)]
def agM:bh:=⟨153,[.v .bool,.v dM],[bO],oe⟩
theorem y8:bg E agM:=
 .q (aF BU bn) (.k [0] .l) Tryz.func153 Tryz.call153 [(4,bO),(1,dM)] [(1,6)]
def agW:bh:=⟨162,[.v aO],[bO],vQ⟩
theorem II:bg E agW:=
 .q (aF y8 bn) (.k [0] (.n (.n (.t (.x [] ⟨[(2,.s (.ref 2 [])),(3,.v cf)],[(2,dV)]⟩) .l .l)))) Tryz.func162 Tryz.call162 [(2,bO)] [(21,20)]
def agH:bh:=⟨149,[.v bO],[bO],ug⟩
theorem IG:bg E agH:=
 .q (aF y8 bn) (.k [0] .l) Tryz.func149 Tryz.call149 [(1,fR),(2,bO)]
def ajp:bh:=⟨87,[],[cj],AF⟩
theorem IN:bg E ajp:=
 .q bn .l Tryz.func87 Tryz.call87 [(0,cj)]
def BC (x:Int):hj:=⟨E.tt,[],[],14,[0]++(ly 0 [.v e6]++r3 (lr 0 [.v e6])),[(0,.val e6 x)]++[],[],lr 0 [.v e6],[],[],E.glob⟩
noncomputable def yN:Code:=Tryz.f222.body.getD .skip
def BD:Array Oper:=(B9 3 yN).getD #[]
def Tl:pD:=.two .none (.leaf) (.two .none (.two .none (.leaf) (.leaf)) (.leaf))
def NP:pD:=.keep [0] (.two .none (.leaf) (.two .none Tl (.two .none (.leaf) (.leaf))))
def Ej (x:Int):bj:=⟨[(4,.val .bool (x==0)),(3,.val e6 x),(2,.val aO 0),(0,.val e6 x)],[]⟩
def Tk (x:Int):Exit->bj->Option (j3 [.v e6] (oA [.int .i64])):=YT E.tt [.v e6] [.tmp 2] [.int .i64] (x,())
theorem arn:yN=.seq (OT yN) (.seq (OT (aeC yN)) (.seq (.region 3 BD false) .ret)):=by kernel_rfl
theorem arq:BD.size=10:=by kernel_rfl
theorem aro {aT:Type} (x:Int) (xH:Exit->bj->Option aT) (G:bj->Option aT):iF (BC x) .leaf (OT yN) ⟨[(0,.val e6 x)],[]⟩ aT (Jm (fun s=>iF (BC x) Tl (OT (aeC yN)) s aT (Jm G xH)) xH)=bif x==0 then xH .ret ⟨(2,.val aO 32)::(Ej x).g,[]⟩ else G (Ej x):=by kernel_rfl
theorem arj {aT:Type} (x:Int) (K:bj->Option aT):mV (BC x) BD [0,1,2,3,4] (Ej x) K=K ⟨(9,.val e6 (IntKind.u32.wrap (ed IntKind.u32 x (IntKind.u32.wrap (0-x))*125613361)))::(8,.val e6 (ed IntKind.u32 x (IntKind.u32.wrap (0-x))))::(7,.val e6 (IntKind.u32.wrap (0-x)))::(6,.val e6 x)::(5,.val e6 x)::(Ej x).g,[]⟩:=by kernel_rfl
theorem ark (x p q z:Int):mV (BC x) BD [5,6,7,8,9] ⟨(9,.val e6 z)::(8,.val e6 p)::(7,.val e6 q)::(6,.val e6 x)::(5,.val e6 x)::(Ej x).g,[]⟩ (Tk x .ret)=(d6 IntKind.u32 z 27).bind fun dU=>(bf uc dU).bind fun gO=>some (IntKind.i64.wrap gO,()):=by kernel_rfl
theorem ars (x:Int):Tk x .ret ⟨(2,.val aO 32)::(Ej x).g,[]⟩=some ((32:Int),()):=by kernel_rfl
theorem arp {aT:Type} (x:Int) (a:hG [.v e6]) (C D:Code) (xH:Exit->bj->Option aT) (aC:a=(x,())):iF ⟨E.tt,[],[],14,ly 0 [.v e6]++r3 (lr 0 [.v e6]),[],[],lr 0 [.v e6],[],[],E.glob⟩ NP (.seq C (.seq D (.seq (.region 3 BD false) .ret))) ⟨qq 0 [.v e6] a,qr 0 [.v e6] a⟩ aT xH=iF (BC x) .leaf C ⟨[(0,.val e6 x)],[]⟩ aT (Jm (fun s=>iF (BC x) Tl D s aT (Jm (fun s=>mV (BC x) BD (List.range BD.size) s (xH .ret)) xH)) xH):=by subst aC;rfl
theorem arl (a:hG [.v e6]):Nw ⟨E.tt,[],[],14,ly 0 [.v e6]++r3 (lr 0 [.v e6]),[],[],lr 0 [.v e6],[],[],E.glob⟩ NP yN [.v e6] [.tmp 2] [.int .i64] a=Do a:=by obtain⟨x,⟨⟩⟩:=a;show iF _ NP yN _ _ (Tk x)=_;rw[arn,arp x _ _ _ _ rfl,aro,arq,show List.range 10=[0,1,2,3,4]++[5,6,7,8,9] from rfl,SS,arj,ark,ars];exact Eq.refl (bif x==(0:Int) then some ((32:Int),()) else(d6 IntKind.u32 (IntKind.u32.wrap (ed IntKind.u32 x (IntKind.u32.wrap (0-x))*125613361)) 27).bind fun dU=>(bf uc dU).bind fun gO=>some (IntKind.i64.wrap gO,()))
def ahI:bh:=⟨222,[.v e6],[aO],Do⟩
theorem acO:bg E ahI:=
 bg.of (fn:=Tryz.f222) (rs:=[.tmp 2]) [] [] [] NP Tryz.func222 (by kernel_rfl) (by kernel_rfl) (by kernel_rfl) Tryz.call222 ae0 (by intro a;exact arl a)
def agJ:bh:=⟨150,[.v bO],[aO],vR⟩
theorem acw:bg E agJ:=
 .q (aF acO (aF BU bn)) (.k [0] (.n (.n (.t .none (.n (.o (.k [3] (.p ⟨[(4,.v aO)],[]⟩ (.cR 0 ⟨[],[]⟩) .l)))) .l)))) Tryz.func150 Tryz.call150 [(1,fR),(3,dM)] [(3,7)]
def ajy:bh:=⟨96,[.v bO],[bO],vO⟩
theorem IQ:bg E ajy:=
 .q (aF y8 bn) (.k [0] .l) Tryz.func96 Tryz.call96 [(1,fR),(2,bO)]
def agS:bh:=⟨159,[.v dM,.v aO],[cu],Dr⟩
theorem acz:bg E agS:=
 .q bn (.k [0,1] (.n (.n (.n (.t .none (.n (.o (.p ⟨[(5,.s (.ref 5 [])),(6,.v cf),(7,.v aO)],[(5,cu)]⟩ (.x 0 ⟨[(5,.s (.ref 5 [])),(6,.v cf)],[(5,cu)]⟩) .l))) .l))))) Tryz.func159 Tryz.call159 [(10,cu)]
def agU:bh:=⟨160,[.v dM,.v aO],[cu,.bool],Ds⟩
theorem Uc:bg E agU:=
 .q bn (.k [0,1] (.n (.n (.t .none (.n (.o (.p ⟨[(6,.v .bool),(7,.v aO)],[]⟩ (.x 0 ⟨[(6,.v .bool)],[]⟩) (.t (.cR [6,7] ⟨[],[]⟩) .l (.t (.x [7] ⟨[(6,.v .bool)],[]⟩) .l .l))))) (.n (.n (.t .none (.n (.o (.k [9] (.p ⟨[(6,.v .bool),(8,.s (.ref 8 [])),(10,.v aO)],[(8,cu)]⟩ (.x 2 ⟨[(6,.v .bool),(8,.s (.ref 8 []))],[(8,cu)]⟩) (.n (.t (.x [10] ⟨[(6,.v .bool),(8,.s (.ref 8 []))],[(8,cu)]⟩) (.o (.n (.t (.x [6] ⟨[(8,.s (.ref 8 [])),(11,.v cf)],[(8,cu)]⟩) .l (.t (.x [11] ⟨[(6,.v .bool),(8,.s (.ref 8 []))],[(8,cu)]⟩) .l .l)))) .l)))))) .l))))))) Tryz.func160 Tryz.call160 [(8,cu)]
def ajt:bh:=⟨91,[.v bO],[bO],Gq⟩
theorem adc:bg E ajt:=
 .q (aF y8 bn) (.k [0] .l) Tryz.func91 Tryz.call91 [(1,fR),(2,bO)]
def agP:bh:=⟨156,[.v dM,.v dM],[cu],LJ⟩
theorem aub:bg E agP:=
 .q bn (.k [0,1] (.n (.n (.n (.t .none (.n (.o (.p ⟨[(5,.s (.ref 5 [])),(6,.v cf),(7,.v aO)],[(5,cu)]⟩ (.x 0 ⟨[(5,.s (.ref 5 [])),(6,.v cf)],[(5,cu)]⟩) (.n (.t (.x [7] ⟨[(5,.s (.ref 5 [])),(6,.v cf)],[(5,cu)]⟩) (.o (.t (.x [] ⟨[(5,.s (.ref 5 [])),(6,.v cf)],[(5,cu)]⟩) .l (.t (.x [] ⟨[(5,.s (.ref 5 [])),(6,.v cf)],[(5,cu)]⟩) .l .l))) .l))))) .l))))) Tryz.func156 Tryz.call156 [(5,cu)]
def agQ:bh:=⟨157,[.v dM,.v dM],[aO],Gr⟩
theorem acy:bg E agQ:=
 .q bn (.k [0,1] (.n (.n (.t .none (.n (.o (.p ⟨[(5,.v aO)],[]⟩ (.cR 0 ⟨[],[]⟩) .l))) .l)))) Tryz.func157 Tryz.call157
def agR:bh:=⟨158,[.v dM,.v dM],[cu],Gs⟩
theorem auc:bg E agR:=
 .q bn (.k [0,1] (.n (.n (.n (.t .none (.n (.o (.p ⟨[(5,.s (.ref 5 [])),(6,.v cf),(7,.v aO)],[(5,cu)]⟩ (.x 0 ⟨[(5,.s (.ref 5 []))],[(5,cu)]⟩) (.n (.t (.x [7] ⟨[(5,.s (.ref 5 [])),(6,.v cf)],[(5,cu)]⟩) (.o (.n (.t (.x [] ⟨[(5,.s (.ref 5 [])),(8,.v cf)],[(5,cu)]⟩) .l .l))) .l))))) .l))))) Tryz.func158 Tryz.call158 [(5,cu)]
def ajw:bh:=⟨94,[.v bO,.v bO],[bO],uf⟩
theorem IP:bg E ajw:=
 .q (aF auc (aF acy (aF aub (aF BU (aF y8 bn))))) (.k [0,1] (.n (.t .none (.d [(0,[],[]),(1,[],[]),(2,[1000009],[9]),(3,[],[]),(4,[],[]),(5,[1000012],[12]),(6,[1000009],[9,500009]),(7,[1000012],[12,500012])]) (.t .none (.n (.t .none (.t .none (.d [(0,[],[]),(1,[],[]),(2,[],[]),(3,[],[]),(4,[1000022],[22]),(5,[1000022],[22,500022]),(6,[1000004],[4])]) .l) .l)) (.t .none (.n (.t .none (.t .none (.d [(0,[],[]),(1,[],[]),(2,[],[]),(3,[],[]),(4,[1000032],[32]),(5,[1000032],[32,500032]),(6,[1000004],[4])]) .l) .l)) (.t .none (.d [(0,[],[]),(1,[],[]),(2,[],[]),(3,[],[]),(4,[1000038],[38]),(5,[1000038],[38,500038]),(6,[1000004],[4])]) .l)))))) Tryz.func94 Tryz.call94 [(2,fR),(3,fR),(4,bO),(5,dM),(6,dM)] [(5,9),(6,12),(23,22),(33,32),(39,38)]
def agV:bh:=⟨161,[.v bO,.v bO],[bO],Dq⟩
theorem Ud:bg E agV:=
 .q (aF IP (aF adc bn)) (.k [0,1] (.n (.t .none (.d [(0,[],[]),(1,[],[]),(2,[],[]),(3,[],[]),(4,[1000004],[4])]) .l))) Tryz.func161 Tryz.call161 [(2,fR),(3,fR),(4,bO)]
def ajx:bh:=⟨95,[.v bO,.v aO],[bO],oX⟩
theorem EI:bg E ajx:=
 .q (aF II (aF Ud (aF Uc (aF acz (aF y8 (aF IG bn)))))) (.k [0,1] (.n (.n (.t .none (.n (.t .none (.t .none (.d [(0,[1000002,2000002],[]),(1,[2000002],[]),(2,[1000002,4000002],[]),(3,[4000002],[]),(4,[],[]),(5,[1000017],[17]),(6,[1000017],[17,500017]),(7,[1000004],[4])]) .l) .l)) (.n (.n (.t (.x [] ⟨[(4,.s (.ref 4 [])),(7,.s (.ref 7 []))],[(4,dV),(7,dV)]⟩) (.t (.x [] ⟨[(4,.s (.ref 4 [])),(7,.s (.ref 7 [])),(35,.v .bool)],[(4,dV),(7,dV)]⟩) .l (.t .none (.d [(0,[1000007],[]),(1,[],[]),(2,[],[]),(3,[1000007],[7])]) .l)) .l))))))) Tryz.func95 Tryz.call95 [(4,bO),(5,dM),(7,bO)] [(5,25000),(18,17)]
def agK:bh:=⟨151,[.v bO,.v aO],[bO],Dt⟩
theorem acx:bg E agK:=
 .q (aF EI bn) (.k [0] (.n (.t .none (.o (.p ⟨[(1,.v aO),(2,.s (.ref 2 [])),(4,.s (.ref 4 []))],[(2,dV),(4,dV)]⟩ (.x 0 ⟨[(1,.v aO),(2,.s (.ref 2 [])),(4,.s (.ref 4 []))],[(2,dV),(4,dV)]⟩) .l)) .l))) Tryz.func151 Tryz.call151 [(4,bO)]
def ahJ:bh:=⟨223,[.v e6],[aO],Dn⟩
theorem Ug:bg E ahJ:=
 .q bn (.n (.t (.x [] ⟨[(0,.v e6),(2,.v aO)],[]⟩) .l (.t (.x [] ⟨[(0,.v e6),(2,.v aO)],[]⟩) .l .l))) Tryz.func223 Tryz.call223
def agL:bh:=⟨152,[.v bO],[aO],vP⟩
theorem IH:bg E agL:=
 .q (aF Ug (aF BU bn)) (.k [0] .l) Tryz.func152 Tryz.call152 [(1,fR),(3,dM)] [(3,6)]
def ajq:bh:=⟨88,[.v bO,.v aO],[cj],sE⟩
theorem BV:bg E ajq:=
 .q (aF IQ (aF IN (aF IH (aF acx (aF acw (aF IG bn)))))) (.k [0,1] (.n (.n (.n (.n (.n (.n (.n (.n (.t (.cR [2,7] ⟨[(4,.s (.ref 4 [])),(5,.s (.ref 5 []))],[(4,hm),(5,dV)]⟩) (.t (.x [] ⟨[(4,.s (.ref 4 [])),(5,.s (.ref 5 [])),(36,.v .bool)],[(4,hm),(5,dV)]⟩) .l .l) .l)))))))))) Tryz.func88 Tryz.call88 [(2,fR),(4,cj),(5,bO)]
def af9:bh:=⟨119,[.v aO],[cj],Gu⟩
theorem acs:bg E af9:=
 .q (aF BV (aF II bn)) (.k [0] .l) Tryz.func119 Tryz.call119 [(2,cj)]
def ajs:bh:=⟨90,[.v cj],[cj],qv⟩
theorem y9:bg E ajs:=
 .q (aF BV (aF IN bn)) (.k [0] .l) Tryz.func90 Tryz.call90 [(1,t5),(2,cj)]
def ajv:bh:=⟨93,[.v bO],[aO],nw⟩
theorem uR:bg E ajv:=
 .q (aF IG bn) (.k [0] .l) Tryz.func93 Tryz.call93
def ahA:bh:=⟨214,[.v .bool,.v cf],[cf],vS⟩
theorem acL:bg E ahA:=
 .q bn (.k [0,1] .l) Tryz.func214 Tryz.call214
def ahx:bh:=⟨211,[.v .bool,.v aO],[cf],Gy⟩
theorem auA:bg E ahx:=
 .q (aF acL bn) (.k [0,1] (.n (.t (.cR [] ⟨[],[]⟩) (.t (.x [] ⟨[(21,.v .bool)],[]⟩) .l .l) .l))) Tryz.func211 Tryz.call211
def aih:bh:=⟨261,[.v bO,.v aO],[.bool],Gn⟩
theorem auZ:bg E aih:=
 .q (aF Uc (aF BU bn)) (.k [0,1] .l) Tryz.func261 Tryz.call261 [(2,fR),(5,dM)] [(5,13000),(12,10)]
def aii:bh:=⟨262,[.v .bool,.v aO,.v .bool,.v aO],[.bool],LS⟩
theorem au0:bg E aii:=
 .q bn (.k [0,1,2,3] .l) Tryz.func262 Tryz.call262
def ahy:bh:=⟨212,[.v .bool,.v bO,.v aO,.v .bool,.v aO],[bO],LN⟩
theorem auB:bg E ahy:=
 .q (aF IP (aF uR (aF au0 (aF auZ (aF II (aF acx (aF acw bn))))))) (.k [0,1,2,3,4] (.n (.n (.n (.t (.cR [6] ⟨[(10,.s (.ref 10 [])),(11,.s (.ref 11 []))],[(10,dV),(11,dV)]⟩) (.t (.x [] ⟨[(10,.s (.ref 10 [])),(11,.s (.ref 11 [])),(27,.v .bool)],[(10,dV),(11,dV)]⟩) .l .l) (.n (.t (.x [] ⟨[(10,.s (.ref 10 [])),(11,.s (.ref 11 [])),(13,.v aO)],[(10,dV),(11,dV)]⟩) (.n (.t .none (.n (.t (.x [6,13] ⟨[(10,.s (.ref 10 [])),(11,.s (.ref 11 [])),(42,.v .bool)],[(10,dV),(11,dV)]⟩) .l .l)) .l)) (.t (.x [13] ⟨[(10,.s (.ref 10 [])),(11,.s (.ref 11 [])),(15,.v .bool)],[(10,dV),(11,dV)]⟩) .l (.t (.x [] ⟨[(10,.s (.ref 10 [])),(11,.s (.ref 11 []))],[(10,dV),(11,dV)]⟩) (.n (.t .none (.d [(0,[1000011],[]),(1,[],[]),(2,[],[]),(3,[1000011],[11])]) .l)) .l))))))))) Tryz.func212 Tryz.call212 [(6,fR),(10,bO),(11,bO),(14,bO)]
def ahz:bh:=⟨213,[.v bO],[aO,.bool],LH⟩
theorem auC:bg E ahz:=
 .q (aF IG bn) (.k [0] (.n (.n (.n (.n (.t .none (.n (.o (.p ⟨[(1,.s (.ref 1 [])),(4,.v cf),(5,.v aO)],[(1,dV)]⟩ (.x 0 ⟨[(1,.s (.ref 1 [])),(4,.v cf)],[(1,dV)]⟩) .l))) .l)))))) Tryz.func213 Tryz.call213
def agz:bh:=⟨141,[.v .bool,.v bO,.v aO,.v .bool,.v aO],[cf],Du⟩
theorem T7:bg E agz:=
 .q (aF EI (aF acL (aF auC (aF auB (aF auA (aF IH bn)))))) (.k [0,1,2,3,4] (.n (.n (.n (.n (.n (.t (.x [12] ⟨[(13,.s (.ref 13 []))],[(13,dV)]⟩) .l (.n (.t (.x [] ⟨[(12,.v aO),(14,.v aO)],[]⟩) .l (.t (.cR [14] ⟨[],[]⟩) (.o (.t (.x [12] ⟨[(54,.v .bool)],[]⟩) .l .l)) .l)))))))))) Tryz.func141 Tryz.call141 [(6,fR),(13,bO)]
def ajl:bh:=⟨81,[.v cj,.v aO],[cf],Gx⟩
theorem ac9:bg E ajl:=
 .q (aF IQ (aF uR (aF y9 (aF T7 bn)))) (.k [0,1] (.n (.n (.n (.n (.t .none (.d [(0,[1000002,4000002],[]),(1,[4000002,5000002],[]),(2,[5000002],[]),(3,[1000002,4000002],[]),(4,[4000002],[]),(5,[],[]),(6,[1000002,6000002],[]),(7,[6000002],[]),(8,[],[]),(9,[],[]),(10,[],[])]) .l)))))) Tryz.func81 Tryz.call81
def aiU:bh:=⟨52,[.v aO,.v aO],[cf],AG⟩
theorem ac3:bg E aiU:=
 .q (aF ac9 (aF acs bn)) (.k [0,1] .l) Tryz.func52 Tryz.call52
def ahc:bh:=⟨192,[.v aO,.v aO,.v aO],[.bool],Lr⟩
theorem aul:bg E ahc:=
 .q bn (.k [0,1,2] .l) Tryz.func192 Tryz.call192
def aio:bh:=⟨269,[.v aO],[.bool],x3⟩
theorem acX:bg E aio:=
 .q bn (.k [0] .l) Tryz.func269 Tryz.call269
def ahR:bh:=⟨234,[.v aO,.v aO],[.bool],Au⟩
theorem Uh:bg E ahR:=
 .q (aF acX bn) (.k [0,1] .l) Tryz.func234 Tryz.call234
def ahU:bh:=⟨242,[.v gd],[.bool],Lw⟩
theorem auH:bg E ahU:=
 .q (aF Uh bn) (.k [0] (.n (.t .none (.n (.o (.p ⟨[(3,.v aO)],[]⟩ (.cR 0 ⟨[],[]⟩) .l))) .l))) Tryz.func242 Tryz.call242
def ahd:bh:=⟨193,[.v jS],[.bool],Lo⟩
theorem aum:bg E ahd:=
 .q (aF auH bn) (.k [0] (.n (.t (.cR [1] ⟨[],[]⟩) .l (.t .none (.n (.o (.k [1,49] (.p ⟨[(50,.v aO)],[]⟩ (.cR 0 ⟨[],[]⟩) (.n (.n (.t .none (.o (.n (.n (.n (.o (.k [50,66,67] (.p ⟨[(4,.v aO),(68,.v aO)],[]⟩ (.cR 2 ⟨[],[]⟩) (.n (.n (.t (.cR [68] ⟨[(4,.v aO)],[]⟩) (.o (.n (.t (.cR [6] ⟨[],[]⟩) .l .l))) .l)))))))))) .l))))))) .l)))) Tryz.func193 Tryz.call193 [(1,np)]
def agA:bh:=⟨142,[.v cf],[aO,cf],Dg⟩
theorem T8:bg E agA:=
 .q bn (.k [0] .l) Tryz.func142 Tryz.call142
def ajm:bh:=⟨84,[.v cf],[.bool],Av⟩
theorem ada:bg E ajm:=
 .q (aF T8 bn) (.k [0] .l) Tryz.func84 Tryz.call84
def ahf:bh:=⟨195,[.v cf],[.bool],Qu⟩
theorem auo:bg E ahf:=
 .q (aF ada bn) (.k [0] .l) Tryz.func195 Tryz.call195
def ahV:bh:=⟨243,[.v pM,.c 195 []],[aO],Qw⟩
theorem auI:bg E ahV:=
 .q (aF auo bn) (.k [0,1] (.n (.t .none (.n (.o (.k [7] (.p ⟨[(8,.v aO)],[]⟩ (.cR 0 ⟨[],[]⟩) .l)))) .l))) Tryz.func243 Tryz.call243
def ahe:bh:=⟨194,[.v pM,.c 195 []],[.bool],Lu⟩
theorem aun:bg E ahe:=
 .q (aF auI bn) (.k [0,1] .l) Tryz.func194 Tryz.call194
def agc:bh:=⟨121,[.v jS],[aO],x6⟩
theorem Oc:bg E agc:=
 .q (aF aum (aF aul (aF aun bn))) (.k [0] (.n (.t .none (.o (.t (.x [1] ⟨[(3,.v .bool)],[]⟩) .l .l)) .l))) Tryz.func121 Tryz.call121 [(1,np)]
def agd:bh:=⟨122,[.v gd,.v aO],[dL,.bool],Mf⟩
theorem atQ:bg E agd:=
 .q bn (.k [0,1] (.n (.n (.n (.n (.t .none (.n (.o (.k [18,19] (.p ⟨[(6,.s (.ref 6 [])),(7,.s (.ref 7 [])),(20,.v aO)],[(6,dL),(7,ix)]⟩ (.cR 0 ⟨[(6,.s (.ref 6 []))],[(6,dL)]⟩) (.n (.n (.t (.cR [20] ⟨[(6,.s (.ref 6 [])),(7,.s (.ref 7 []))],[(6,dL),(7,ix)]⟩) (.o (.n (.t (.cR [8,9] ⟨[(6,.s (.ref 6 [])),(7,.s (.ref 7 []))],[(6,dL),(7,ix)]⟩) (.t (.x [] ⟨[(6,.s (.ref 6 [])),(7,.s (.ref 7 [])),(37,.v .bool)],[(6,dL),(7,ix)]⟩) .l .l) .l))) .l))))))) .l)))))) Tryz.func122 Tryz.call122 [(15,dL),(17,ix),(4,dL)]
def ahg:bh:=⟨196,[.v jS],[fI],Dp⟩
theorem acF:bg E ahg:=
 .q bn (.k [0] (.n (.n (.t .none (.n (.o (.k [1,7] (.p ⟨[(3,.s (.ref 3 [])),(8,.v aO)],[(3,fI)]⟩ (.x 0 ⟨[(3,.s (.ref 3 []))],[(3,fI)]⟩) (.n (.n (.t .none (.o (.n (.n (.o (.k [4,8] (.p ⟨[(3,.s (.ref 3 [])),(5,.v aO)],[(3,fI)]⟩ (.x 2 ⟨[(3,.s (.ref 3 []))],[(3,fI)]⟩) (.n (.t .none (.o (.d [(0,[500003],[]),(1,[],[]),(2,[],[]),(3,[],[]),(4,[],[]),(5,[],[]),(6,[],[]),(7,[],[]),(8,[],[]),(9,[],[]),(10,[],[]),(11,[],[]),(12,[],[]),(13,[1000039],[39]),(14,[1000003,1000039,1000040],[3,40,500003,500040]),(15,[1000003,1000040],[3,40,500003,500040])])) .l)))))))) .l))))))) .l)))) Tryz.func196 Tryz.call196 [(1,np),(3,fI)]
def aiq:bh:=⟨270,[.v (.bM .eN n8)],[fI],Qv⟩
theorem au3:bg E aiq:=
 .q bn (.k [0] .l) Tryz.func270 Tryz.call270 [(2,fI)]
def aik:bh:=⟨264,[.v aO,.v aO],[aO],Dd⟩
theorem acW:bg E aik:=
 .q (aF acX bn) (.k [0,1] .l) Tryz.func264 Tryz.call264
def ait:bh:=⟨273,[.v gd],[aO],KP⟩
theorem au6:bg E ait:=
 .q bn (.k [0] (.n (.n (.t .none (.n (.o (.k [3,6,7] (.p ⟨[(8,.v aO)],[]⟩ (.cR 0 ⟨[],[]⟩) .l)))) .l)))) Tryz.func273 Tryz.call273
def ais:bh:=⟨272,[.v n8,.v n8],[aO],Lq⟩
theorem au5:bg E ais:=
 .q (aF au6 (aF acW bn)) (.k [0,1] (.n (.t .none (.d [(0,[],[]),(1,[],[]),(2,[],[]),(3,[],[]),(4,[],[]),(5,[],[]),(6,[],[]),(7,[],[]),(8,[],[]),(9,[],[]),(10,[1000015],[15]),(11,[1000015],[]),(12,[],[])]) .l))) Tryz.func272 Tryz.call272 [(2,(.ptr .cL n8)),(3,(.ptr .cL n8))]
def aiL:bh:=⟨297,[.m fI,.v aO,.v aO,.c 272 []],[],Ge⟩
theorem avl:bg E aiL:=
 .q (aF au5 bn) (.k [1,2,3] (.n (.o (.p ⟨[(0,.s (.ref 0 [])),(8,.v aO)],[(0,fI)]⟩ (.x 0 ⟨[(0,.s (.ref 0 []))],[(0,fI)]⟩) (.n (.t .none (.o (.n (.o (.k [8] (.p ⟨[(0,.s (.ref 0 [])),(9,.v aO)],[(0,fI)]⟩ (.x 2 ⟨[(0,.s (.ref 0 []))],[(0,fI)]⟩) (.t (.cR [9] ⟨[(0,.s (.ref 0 []))],[(0,fI)]⟩) (.t .none (.d [(0,[],[]),(1,[],[]),(2,[],[]),(3,[],[]),(4,[],[]),(5,[500000],[]),(6,[],[]),(7,[0,1000000],[]),(8,[0],[]),(9,[500000],[]),(10,[],[]),(11,[],[]),(12,[0,1000000],[]),(13,[0],[]),(14,[],[]),(15,[],[]),(16,[],[])]) .l) (.t .none (.o (.d [(0,[500000],[]),(1,[],[]),(2,[500000],[]),(3,[],[]),(4,[],[]),(5,[500000],[]),(6,[],[]),(7,[],[]),(8,[0,1000000],[]),(9,[0],[]),(10,[500000],[]),(11,[],[]),(12,[0,1000000],[]),(13,[0],[]),(14,[0,1000000],[]),(15,[0],[0]),(16,[0,1000000],[]),(17,[0],[0])])) .l))))))) .l)))))) Tryz.func297 Tryz.call297
def aiC:bh:=⟨287,[.m fI,.v aO,.c 272 []],[],QA⟩
theorem ave:bg E aiC:=
 .q (aF avl bn) (.k [1,2] (.n (.n (.t .none (.o (.k [6] (.p ⟨[(0,.s (.ref 0 [])),(7,.v aO),(8,.v aO)],[(0,fI)]⟩ (.x 0 ⟨[(0,.s (.ref 0 [])),(7,.v aO)],[(0,fI)]⟩) .l))) (.n (.o (.p ⟨[(0,.s (.ref 0 [])),(6,.v aO)],[(0,fI)]⟩ (.x 2 ⟨[(0,.s (.ref 0 []))],[(0,fI)]⟩) (.n (.o (.t .none (.z [777777] .l) .l)))))))))) Tryz.func287 Tryz.call287
def air:bh:=⟨271,[.m fI,.c 272 []],[],Qz⟩
theorem au4:bg E air:=
 .q (aF ave bn) (.k [1] .l) Tryz.func271 Tryz.call271
def ahW:bh:=⟨244,[.v (.bM .eN n8)],[fI],Lp⟩
theorem auJ:bg E ahW:=
 .q (aF au3 (aF au4 bn)) .l Tryz.func244 Tryz.call244
def ahh:bh:=⟨197,[.v aO,.v aO,.v (.bM .eN n8)],[mD],Ln⟩
theorem aup:bg E ahh:=
 .q (aF auJ bn) (.k [0,1,2] (.n (.n (.t .none (.n (.o (.k [19] (.p ⟨[(6,.s (.ref 6 [])),(7,.s (.ref 7 [])),(18,.s (.ref 18 [])),(20,.v aO)],[(6,ez),(7,ez),(18,fI)]⟩ (.x 0 ⟨[(6,.s (.ref 6 [])),(7,.s (.ref 7 []))],[(6,ez),(7,ez)]⟩) (.n (.n (.t .none (.o (.n (.t .none (.d [(0,[1000007,8000007],[]),(1,[8000007],[]),(2,[1000009,2000009],[]),(3,[2000009],[]),(4,[1000028],[28]),(5,[29,1000028,8000007,9000007],[29,1500007,10500007,11500007]),(6,[1000007,10000007],[]),(7,[10000007],[]),(8,[1000009,6000009],[]),(9,[6000009],[]),(10,[1000034],[34]),(11,[35,1000034,10000007,11000007],[35,1500007,8500007,9500007]),(12,[1000007,8000007],[]),(13,[29,8000007,9000007],[7,29,500029]),(14,[1000007,10000007],[]),(15,[35,10000007,11000007],[7,35,500035])]) .l))) .l))))))) (.t .none (.n (.o (.k [48] (.p ⟨[(6,.s (.ref 6 [])),(7,.s (.ref 7 [])),(49,.v aO)],[(6,ez),(7,ez)]⟩ (.x 2 ⟨[(6,.s (.ref 6 [])),(7,.s (.ref 7 []))],[(6,ez),(7,ez)]⟩) (.n (.n (.t .none (.o (.n (.d [(0,[1000007,6000007],[]),(1,[6000007],[]),(2,[],[]),(3,[],[]),(4,[6000007,7000007],[]),(5,[7000007],[]),(6,[1000007,6000007],[]),(7,[6000007],[]),(8,[],[]),(9,[6000007,7000007],[]),(10,[7000007],[]),(11,[],[]),(12,[6000007,7000007],[]),(13,[7000007],[7])]))) .l))))))) .l))))) Tryz.func197 Tryz.call197 [(6,mD),(15,dL),(16,mD),(7,mD),(9,n8)]
def age:bh:=⟨123,[.v jS],[n9,aO],Lm⟩
theorem atR:bg E age:=
 .q (aF aup (aF acF (aF Oc bn))) (.k [0] (.n (.n (.n (.n (.t .none (.n (.o (.k [1,16] (.p ⟨[(2,.s (.ref 2 [])),(5,.s (.ref 5 [])),(15,.s (.ref 15 [])),(17,.v aO)],[(2,(.optr n9)),(5,fI),(15,fI)]⟩ (.x 0 ⟨[(2,.s (.ref 2 [])),(5,.s (.ref 5 []))],[(2,(.optr n9)),(5,fI)]⟩) (.n (.n (.t (.x [17] ⟨[(2,.s (.ref 2 [])),(5,.s (.ref 5 [])),(15,.s (.ref 15 []))],[(2,(.optr n9)),(5,fI),(15,fI)]⟩) .l .l))))))) .l)))))) Tryz.func123 Tryz.call123 [(1,np),(2,n9),(5,fI),(7,n8)] [(999999,36)]
def ahi:bh:=⟨198,[.v aO],[hV],F3⟩
theorem acG:bg E ahi:=
 .q bn (.k [0] (.n (.n (.t .none (.n (.o (.k [8] (.p ⟨[(3,.s (.ref 3 [])),(9,.v aO)],[(3,hV)]⟩ (.x 0 ⟨[(3,.s (.ref 3 []))],[(3,hV)]⟩) .l)))) .l)))) Tryz.func198 Tryz.call198 [(6,hV),(15,ix)]
def ahj:bh:=⟨199,[.v jS],[fI],Ll⟩
theorem auq:bg E ahj:=
 .q (aF acF (aF Oc bn)) (.k [0] .l) Tryz.func199 Tryz.call199 [(1,np),(2,fI)]
def ahl:bh:=⟨200,[.m hV,.v aO,.v aO],[],F6⟩
theorem acI:bg E ahl:=
 .q bn (.k [1,2] (.n (.t .none (.d [(0,[500000],[]),(1,[],[]),(2,[0,1000000],[]),(3,[0],[]),(4,[],[]),(5,[500000],[]),(6,[],[]),(7,[0,1000000],[]),(8,[0],[]),(9,[],[]),(10,[0],[]),(11,[0],[0]),(12,[0],[]),(13,[0],[0])]) .l))) Tryz.func200 Tryz.call200
def ahX:bh:=⟨245,[.v (.bM .eN (.bM .eN .bool)),.v aO],[dL],K8⟩
theorem auK:bg E ahX:=
 .q bn (.k [0,1] (.n (.n (.t .none (.n (.o (.k [11,12] (.p ⟨[(5,.s (.ref 5 [])),(13,.v aO)],[(5,dL)]⟩ (.x 0 ⟨[(5,.s (.ref 5 []))],[(5,dL)]⟩) (.n (.n (.t (.x [13] ⟨[(5,.s (.ref 5 []))],[(5,dL)]⟩) .l .l))))))) .l)))) Tryz.func245 Tryz.call245 [(5,dL)]
def ahm:bh:=⟨201,[.v (.bM .eN (.bM .eN .bool))],[kO],F5⟩
theorem acJ:bg E ahm:=
 .q (aF auK bn) (.k [0] (.n (.n (.t .none (.n (.o (.k [10] (.p ⟨[(2,.s (.ref 2 [])),(3,.s (.ref 3 [])),(11,.v aO)],[(2,(.optr kO)),(3,(.optr kO))]⟩ (.x 0 ⟨[(2,.s (.ref 2 [])),(3,.s (.ref 3 []))],[(2,(.optr kO)),(3,(.optr kO))]⟩) (.n (.n (.t .none (.o (.n (.d [(0,[1000003,2000003],[]),(1,[2000003],[]),(2,[],[]),(3,[],[]),(4,[],[]),(5,[1000019],[19]),(6,[2000003,3000003],[]),(7,[1000019,3000003],[3,19,500019])]))) .l))))))) .l)))) Tryz.func201 Tryz.call201 [(2,kO),(7,(.osl hW)),(3,kO)] [(999999,19)]
def agf:bh:=⟨124,[.v jS],[g4,aO],F2⟩
theorem atS:bg E agf:=
 .q (aF acJ (aF acI (aF auq (aF acG (aF Oc bn))))) (.k [0] (.n (.n (.n (.n (.t .none (.n (.o (.k [27] (.p ⟨[(2,.s (.ref 2 [])),(5,.s (.ref 5 [])),(26,.s (.ref 26 [])),(28,.v aO)],[(2,(.optr g4)),(5,hV),(26,fI)]⟩ (.x 1 ⟨[(2,.s (.ref 2 [])),(5,.s (.ref 5 []))],[(2,(.optr g4)),(5,hV)]⟩) .l)))) .l)))))) Tryz.func124 Tryz.call124 [(1,np),(2,g4),(7,n8)] [(999999,40)]
def ahP:bh:=⟨230,[.v gd,.v aO],[.bool],K9⟩
theorem auF:bg E ahP:=
 .q bn (.k [0,1] (.n (.n (.t .none (.n (.o (.k [8,9] (.p ⟨[(5,.v aO),(10,.v aO)],[]⟩ (.cR 0 ⟨[],[]⟩) (.n (.n (.t (.cR [10] ⟨[(5,.v aO)],[]⟩) (.o (.n (.t (.cR [7] ⟨[],[]⟩) .l .l))) .l))))))) .l)))) Tryz.func230 Tryz.call230
def ahS:bh:=⟨235,[.v aO],[.bool],Ly⟩
theorem auG:bg E ahS:=
 .q bn (.k [0] .l) Tryz.func235 Tryz.call235
def aha:bh:=⟨185,[.v gd,.v aO],[aO,.bool],Ls⟩
theorem auj:bg E aha:=
 .q (aF auG (aF Uh bn)) (.k [0,1] (.n (.n (.n (.t .none (.o (.k [6] (.p ⟨[(7,.v aO),(8,.v aO)],[]⟩ (.x 0 ⟨[(7,.v aO)],[]⟩) .l))) .l))))) Tryz.func185 Tryz.call185
def ahQ:bh:=⟨231,[.v nm,.v aO,.v aO],[.bool],Dh⟩
theorem acR:bg E ahQ:=
 .q (aF auj bn) (.k [0,1,2] .l) Tryz.func231 Tryz.call231 [(3,mE)]
def ag8:bh:=⟨178,[.v nm],[aO],F1⟩
theorem acE:bg E ag8:=
 .q (aF acR (aF auF bn)) (.k [0] (.n (.n (.n (.t .none (.n (.o (.k [1,3,16,17] (.p ⟨[(18,.v aO)],[]⟩ (.cR 0 ⟨[],[]⟩) (.n (.n (.t (.cR [18] ⟨[],[]⟩) .l .l))))))) (.t .none (.n (.o (.k [1,35,36] (.p ⟨[(37,.v aO)],[]⟩ (.cR 2 ⟨[],[]⟩) (.n (.n (.t .none (.o (.n (.n (.o (.k [6,37,42,43] (.p ⟨[(44,.v aO)],[]⟩ (.cR 4 ⟨[],[]⟩) .l)))))) .l))))))) .l)))))) Tryz.func178 Tryz.call178 [(1,mE)]
def ah2:bh:=⟨248,[.v nm,.v aO],[.bool],Lc⟩
theorem auN:bg E ah2:=
 .q bn (.k [0,1] .l) Tryz.func248 Tryz.call248 [(2,mE)]
def aiQ:bh:=⟨311,[.v cf],[aO],Ya⟩
theorem avr:bg E aiQ:=
 .q bn (.n (.t (.x [] ⟨[(0,.v cf),(2,.v aO)],[]⟩) .l (.t (.x [] ⟨[(0,.v cf),(2,.v aO)],[]⟩) .l (.t (.x [] ⟨[(0,.v cf),(2,.v aO)],[]⟩) .l .l)))) Tryz.func311 Tryz.call311
def aiO:bh:=⟨301,[.v cf],[aO],Qt⟩
theorem avp:bg E aiO:=
 .q (aF avr bn) (.k [0] .l) Tryz.func301 Tryz.call301
def aiP:bh:=⟨303,[.m dL,.v aO,.v aO],[],Lx⟩
theorem avq:bg E aiP:=
 .q (aF Uh bn) (.k [1,2] (.n (.o (.p ⟨[(0,.s (.ref 0 [])),(6,.v aO)],[(0,dL)]⟩ (.x 0 ⟨[(0,.s (.ref 0 []))],[(0,dL)]⟩) (.n (.t .none (.o (.n (.o (.k [6] (.p ⟨[(0,.s (.ref 0 [])),(7,.v aO)],[(0,dL)]⟩ (.x 2 ⟨[(0,.s (.ref 0 []))],[(0,dL)]⟩) (.t (.cR [7] ⟨[(0,.s (.ref 0 []))],[(0,dL)]⟩) (.t .none (.d [(0,[],[]),(1,[],[]),(2,[],[]),(3,[],[]),(4,[500000],[]),(5,[],[]),(6,[0,1000000],[]),(7,[0],[]),(8,[500000],[]),(9,[],[]),(10,[],[]),(11,[0,1000000],[]),(12,[0],[]),(13,[],[]),(14,[],[])]) .l) (.t .none (.o (.d [(0,[500000],[]),(1,[],[]),(2,[500000],[]),(3,[],[]),(4,[],[]),(5,[500000],[]),(6,[],[]),(7,[],[]),(8,[0,1000000],[]),(9,[0],[]),(10,[500000],[]),(11,[],[]),(12,[0,1000000],[]),(13,[0],[]),(14,[0,1000000],[]),(15,[0],[0]),(16,[0,1000000],[]),(17,[0],[0])])) .l))))))) .l)))))) Tryz.func303 Tryz.call303
def aiN:bh:=⟨300,[.m dL,.v aO,.v aO,.v aO],[],Lz⟩
theorem avo:bg E aiN:=
 .q (aF avq bn) (.n (.n (.o (.p ⟨[(0,.s (.ref 0 [])),(1,.v aO),(2,.v aO),(3,.v aO),(8,.v .bool),(9,.v .bool)],[(0,dL)]⟩ .r (.o (.n (.n (.t .none (.t .none (.z [777777] .l) .l) .l)))))))) Tryz.func300 Tryz.call300
def aiD:bh:=⟨289,[.m dL],[],Gd⟩
theorem avf:bg E aiD:=
 .q (aF avp (aF avo bn)) .l Tryz.func289 Tryz.call289
def ah3:bh:=⟨249,[.v gd],[.bool],Lb⟩
theorem auO:bg E ah3:=Wy.azl rfl (sort:=fun l=>(Gd (l,())).map fun r=>r.1) (fun zs aW h=>by obtain⟨r,hr,rfl⟩:=e1.1 h;exact avf.2 (zs,()) r hr)
def ahZ:bh:=⟨247,[.v aO,.v mE],[.bool],Qr⟩
theorem auM:bg E ahZ:=
 .q (aF auN bn) (.k [0,1] .l) Tryz.func247 Tryz.call247
def aiu:bh:=⟨274,[.v gd,.c 247 [mE]],[aO],Qx⟩
theorem au7:bg E aiu:=
 .q (aF auM bn) (.k [0,1] (.n (.t .none (.n (.o (.k [7] (.p ⟨[(8,.v aO)],[]⟩ (.cR 0 ⟨[],[]⟩) .l)))) .l))) Tryz.func274 Tryz.call274
def ahY:bh:=⟨246,[.v gd,.c 247 [mE]],[.bool],Lv⟩
theorem auL:bg E ahY:=
 .q (aF au7 bn) (.k [0,1] .l) Tryz.func246 Tryz.call246
def ahn:bh:=⟨202,[.v nm,.v gd],[aO],K7⟩
theorem aus:bg E ahn:=
 .q (aF auO (aF acE (aF auL bn))) (.k [0,1] .l) Tryz.func202 Tryz.call202 [(2,mE)]
def aho:bh:=⟨203,[.v nm,.v gd],[g4],La⟩
theorem aut:bg E aho:=
 .q (aF acR (aF acJ (aF acI (aF acG bn)))) (.k [0,1] (.n (.n (.t .none (.n (.o (.k [2,13,14] (.p ⟨[(4,.s (.ref 4 [])),(5,.s (.ref 5 [])),(15,.v aO)],[(4,(.optr g4)),(5,hV)]⟩ (.x 0 ⟨[(4,.s (.ref 4 [])),(5,.s (.ref 5 []))],[(4,(.optr g4)),(5,hV)]⟩) (.n (.n (.t .none (.o (.n (.n (.o (.k [6,7,15,22,23] (.p ⟨[(4,.s (.ref 4 [])),(5,.s (.ref 5 [])),(24,.v aO)],[(4,(.optr g4)),(5,hV)]⟩ (.x 2 ⟨[(4,.s (.ref 4 [])),(5,.s (.ref 5 []))],[(4,(.optr g4)),(5,hV)]⟩) (.n (.n (.t (.x [24] ⟨[(4,.s (.ref 4 [])),(5,.s (.ref 5 []))],[(4,(.optr g4)),(5,hV)]⟩) .l .l))))))))) .l))))))) .l)))) Tryz.func203 Tryz.call203 [(2,mE),(4,g4)] [(999999,40)]
def agh:bh:=⟨125,[.v nm,.v gd],[g4,aO],F4⟩
theorem atT:bg E agh:=
 .q (aF aut (aF aus bn)) (.k [0,1] .l) Tryz.func125 Tryz.call125 [(2,mE),(4,g4)]
def ahF:bh:=⟨219,[.v dM],[dM],iS⟩
theorem nR:bg E ahF:=
 .q bn (.k [0] (.n (.n (.t .none (.o (.p ⟨[(3,.v aO)],[]⟩ (.x 0 ⟨[(3,.v aO)],[]⟩) (.t (.cR [3] ⟨[],[]⟩) .l .l))) .l)))) Tryz.func219 Tryz.call219
def ahG:bh:=⟨220,[.v .bool,.v dM],[bO],nv⟩
theorem wX:bg E ahG:=
 .q (aF nR bn) (.k [0] .l) Tryz.func220 Tryz.call220 [(4,bO)]
def agD:bh:=⟨145,[.v aO],[bO],Dj⟩
theorem T9:bg E agD:=
 .q (aF wX bn) (.k [0] (.n (.n (.t (.x [] ⟨[(2,.s (.ref 2 [])),(3,.v cf)],[(2,dV)]⟩) .l .l)))) Tryz.func145 Tryz.call145 [(2,bO)] [(19,18)]
def agE:bh:=⟨146,[.v cf],[.bool],K5⟩
theorem at8:bg E agE:=
 .q bn (.k [0] .l) Tryz.func146 Tryz.call146
def ahH:bh:=⟨221,[.v dM],[cu],AD⟩
theorem Od:bg E ahH:=
 .q bn (.k [0] .l) Tryz.func221 Tryz.call221 [(2,cu)]
def agF:bh:=⟨147,[.v bO],[bO],x5⟩
theorem Ua:bg E agF:=
 .q (aF Od (aF wX bn)) (.k [0] (.n (.t .none (.d [(0,[],[]),(1,[],[]),(2,[],[]),(3,[],[]),(4,[],[]),(5,[1000008],[8]),(6,[1000008],[8,500008]),(7,[1000002],[2])]) .l))) Tryz.func147 Tryz.call147 [(1,fR),(2,bO)] [(9,8)]
def ag0:bh:=⟨167,[],[cj],FX⟩
theorem Ue:bg E ag0:=
 .q bn .l Tryz.func167 Tryz.call167 [(0,cj)]
def ahB:bh:=⟨215,[.v bO],[bO],Lf⟩
theorem auD:bg E ahB:=
 .q (aF Od (aF wX bn)) (.k [0] (.n (.t .none (.d [(0,[],[]),(1,[],[]),(2,[],[]),(3,[],[]),(4,[1000007],[7]),(5,[1000007],[7,500007]),(6,[1000002],[2])]) .l))) Tryz.func215 Tryz.call215 [(1,fR),(2,bO)] [(8,7)]
def agC:bh:=⟨144,[.v bO],[aO],sD⟩
theorem BT:bg E agC:=
 .q (aF nR bn) (.k [0] .l) Tryz.func144 Tryz.call144 [(1,fR)]
def ahC:bh:=⟨216,[.v bO],[aO],F9⟩
theorem acM:bg E ahC:=
 .q (aF acO bn) (.k [0] (.n (.t .none (.n (.o (.k [6,7] (.p ⟨[(8,.v aO)],[]⟩ (.cR 0 ⟨[],[]⟩) .l)))) .l))) Tryz.func216 Tryz.call216 [(1,fR)]
def aij:bh:=⟨263,[.v dM],[aO],Dl⟩
theorem acV:bg E aij:=
 .q (aF Ug bn) (.k [0] .l) Tryz.func263 Tryz.call263
def ahD:bh:=⟨217,[.v bO],[aO],vM⟩
theorem IL:bg E ahD:=
 .q (aF acV (aF nR bn)) (.k [0] .l) Tryz.func217 Tryz.call217 [(1,fR)]
def aim:bh:=⟨266,[.v dM,.v aO],[dM],AB⟩
theorem Ui:bg E aim:=
 .q (aF nR bn) (.k [0,1] (.n (.n (.n (.n (.t .none (.n (.o (.k [5,6,25,26] (.p ⟨[(7,.s (.ref 7 [])),(27,.v aO)],[(7,cu)]⟩ (.x 0 ⟨[(7,.s (.ref 7 []))],[(7,cu)]⟩) .l)))) (.t .none (.z [7] .l) .l))))))) Tryz.func266 Tryz.call266 [(24,cu)]
def aiB:bh:=⟨284,[.v e6],[.bool],Qs⟩
theorem avd:bg E aiB:=
 .q bn (.k [0] .l) Tryz.func284 Tryz.call284
def aiK:bh:=⟨296,[.v dM,.c 284 []],[aO],Qy⟩
theorem avk:bg E aiK:=
 .q (aF avd bn) (.k [0,1] (.n (.t .none (.n (.o (.k [7] (.p ⟨[(8,.v aO)],[]⟩ (.cR 0 ⟨[],[]⟩) .l)))) .l))) Tryz.func296 Tryz.call296
def aiA:bh:=⟨283,[.v dM,.c 284 []],[.bool],Gc⟩
theorem avc:bg E aiA:=
 .q (aF avk bn) (.k [0,1] .l) Tryz.func283 Tryz.call283
def ain:bh:=⟨267,[.v dM,.v aO],[dM,.bool],Dk⟩
theorem Uj:bg E ain:=
 .q (aF nR (aF avc bn)) (.k [0,1] (.n (.n (.n (.t (.x [6,7] ⟨[(8,.v .bool)],[]⟩) .l (.n (.t .none (.n (.o (.k [6,7,8,45] (.p ⟨[(9,.s (.ref 9 [])),(46,.v aO)],[(9,cu)]⟩ (.x 0 ⟨[(9,.s (.ref 9 []))],[(9,cu)]⟩) (.n (.n (.t (.x [46] ⟨[(9,.s (.ref 9 []))],[(9,cu)]⟩) (.o (.n (.n (.t (.x [10] ⟨[(9,.s (.ref 9 [])),(11,.v cf)],[(9,cu)]⟩) .l .l)))) .l))))))) (.t .none (.z [9] .l) .l)))))))) Tryz.func267 Tryz.call267 [(43,cu)]
def ahL:bh:=⟨225,[.v dM,.v dM],[dM],AA⟩
theorem Oe:bg E ahL:=
 .q (aF nR bn) (.n (.t (.x [] ⟨[(0,.v dM),(1,.v dM)],[]⟩) .l (.n (.n (.t .none (.n (.o (.k [1,21,22] (.p ⟨[(5,.s (.ref 5 [])),(6,.v cf),(23,.v aO)],[(5,cu)]⟩ (.x 0 ⟨[(5,.s (.ref 5 [])),(6,.v cf)],[(5,cu)]⟩) (.n (.n (.t (.x [23] ⟨[(5,.s (.ref 5 [])),(6,.v cf)],[(5,cu)]⟩) (.o (.n (.n (.t (.x [] ⟨[(5,.s (.ref 5 [])),(9,.v cf)],[(5,cu)]⟩) .l .l)))) .l))))))) .l))))) Tryz.func225 Tryz.call225 [(20,cu)] [(57,56)]
def ahO:bh:=⟨228,[.v bO,.v aO],[bO,aO],vN⟩
theorem acQ:bg E ahO:=
 .q (aF Uj (aF Ui (aF Oe (aF wX (aF nR bn))))) (.k [0,1] (.n (.t (.cR [2] ⟨[(4,.s (.ref 4 []))],[(4,dV)]⟩) (.t (.x [] ⟨[(4,.s (.ref 4 [])),(14,.v .bool)],[(4,dV)]⟩) .l .l) (.n (.t .none (.n (.t .none (.t .none (.d [(0,[],[]),(1,[],[]),(2,[],[]),(3,[],[]),(4,[],[]),(5,[],[]),(6,[1000004],[4]),(7,[],[])]) .l) .l)) (.n (.t (.x [2] ⟨[(4,.s (.ref 4 [])),(7,.v dM)],[(4,dV)]⟩) (.t (.x [7] ⟨[(4,.s (.ref 4 [])),(38,.v .bool)],[(4,dV)]⟩) .l .l) .l))))))) Tryz.func228 Tryz.call228 [(2,fR),(4,bO)] [(41,40)]
def ahE:bh:=⟨218,[.v bO,.v aO],[bO],FY⟩
theorem acN:bg E ahE:=
 .q (aF acQ bn) (.k [0] (.n (.t .none (.o (.p ⟨[(1,.v aO),(2,.s (.ref 2 [])),(4,.s (.ref 4 []))],[(2,dV),(4,dV)]⟩ (.x 0 ⟨[(1,.v aO),(2,.s (.ref 2 [])),(4,.s (.ref 4 []))],[(2,dV),(4,dV)]⟩) .l)) .l))) Tryz.func218 Tryz.call218 [(4,bO)]
def agB:bh:=⟨143,[.v cj],[cj,.bool],sC⟩
theorem EH:bg E agB:=
 .q (aF acN (aF IL (aF acM (aF auD (aF Ue (aF BT bn)))))) (.k [0] (.n (.n (.n (.n (.n (.t (.cR [1,5] ⟨[(2,.s (.ref 2 [])),(4,.s (.ref 4 []))],[(2,hm),(4,dV)]⟩) (.t (.x [] ⟨[(2,.s (.ref 2 [])),(4,.s (.ref 4 [])),(30,.v .bool)],[(2,hm),(4,dV)]⟩) (.d [(0,[],[]),(1,[],[]),(2,[1000004],[]),(3,[],[]),(4,[],[]),(5,[],[]),(6,[],[]),(7,[],[]),(8,[],[]),(9,[],[]),(10,[],[]),(11,[],[]),(12,[],[])]) .l) (.t .none (.d [(0,[1000004],[]),(1,[],[]),(2,[],[]),(3,[],[]),(4,[],[]),(5,[],[]),(6,[],[]),(7,[],[]),(8,[1000002],[2]),(9,[],[])]) .l)))))))) Tryz.func143 Tryz.call143 [(1,t5),(2,cj),(4,bO)]
def agG:bh:=⟨148,[.v bO,.v aO],[cj],De⟩
theorem Ub:bg E agG:=
 .q (aF EH bn) (.k [0,1] .l) Tryz.func148 Tryz.call148 [(2,fR),(4,cj),(5,cj)]
def ajo:bh:=⟨86,[.v cf],[cj],Aw⟩
theorem adb:bg E ajo:=
 .q (aF Ub (aF Ua (aF at8 (aF T9 (aF T8 bn))))) (.k [0] (.n (.n (.t (.cR [] ⟨[(2,.s (.ref 2 [])),(3,.v aO),(4,.v cf)],[(2,hm)]⟩) .l (.n (.t (.x [3] ⟨[(2,.s (.ref 2 [])),(5,.s (.ref 5 []))],[(2,hm),(5,dV)]⟩) .l .l)))))) Tryz.func86 Tryz.call86 [(2,cj),(5,bO)]
def aiX:bh:=⟨55,[.v jS,.v gd],[(.ptr .cL (.st (.pr aO (.pr g4 (.pr (.bM .cL (.ey .cL cj)) .nil))))),aO],AI⟩
theorem avv:bg E aiX:=
 .q (aF adb (aF atT (aF atS (aF atR (aF atQ (aF Oc bn)))))) (.k [0,1] (.n (.n (.n (.n (.n (.n (.n (.n (.t .none (.d [(0,[1000002,4000002],[]),(1,[4000002],[]),(2,[1000011],[]),(3,[1000002,4000002],[]),(4,[4000002],[]),(5,[1000060],[60]),(6,[1000060,1000061],[60,61,500060]),(7,[1000061,1000062],[61,62,500061]),(8,[1000013,1000062],[13,62,500013,500062])]) (.t .none (.n (.o (.k [7,67] (.p ⟨[(2,.s (.ref 2 [])),(13,.s (.ref 13 [])),(68,.v aO)],[(2,(.optr jS)),(13,z9)]⟩ (.x 0 ⟨[(2,.s (.ref 2 [])),(13,.s (.ref 13 []))],[(2,(.optr jS)),(13,z9)]⟩) .l)))) (.t .none (.n (.o (.k [7,80] (.p ⟨[(2,.s (.ref 2 [])),(13,.s (.ref 13 [])),(81,.v aO)],[(2,(.optr jS)),(13,z9)]⟩ (.x 2 ⟨[(13,.s (.ref 13 []))],[(13,z9)]⟩) (.n (.n (.t .none (.o (.n (.n (.o (.k [15,81] (.p ⟨[(2,.s (.ref 2 [])),(13,.s (.ref 13 [])),(16,.v aO)],[(2,(.optr jS)),(13,z9)]⟩ (.x 4 ⟨[(2,.s (.ref 2 [])),(13,.s (.ref 13 []))],[(2,(.optr jS)),(13,z9)]⟩) (.n (.t (.x [16] ⟨[(2,.s (.ref 2 [])),(13,.s (.ref 13 []))],[(2,(.optr jS)),(13,z9)]⟩) (.o (.n (.n (.t .none (.n (.d [(0,[500013],[]),(1,[1000013],[]),(2,[1000013,6000013],[]),(3,[6000013],[]),(4,[],[]),(5,[],[]),(6,[],[]),(7,[6000013,7000013],[]),(8,[7000013],[]),(9,[],[]),(10,[],[]),(11,[],[]),(12,[1000002,10000002],[]),(13,[10000002],[]),(14,[],[]),(15,[],[]),(16,[],[]),(17,[],[]),(18,[7000013],[13])])) .l)))) .l)))))))) .l))))))) (.t .none (.z [13] .l) .l))))))))))))) Tryz.func55 Tryz.call55 [(4,(.ptr .cL (.st (.pr aO (.pr g4 (.pr (.bM .cL (.ey .cL cj)) .nil)))))),(7,hW),(9,n9),(11,g4),(60,(.osl (.mp cj))),(76,(.mp cj))] [(7,35000)]
def ah5:bh:=⟨250,[.v aO],[rk],K1⟩
theorem auP:bg E ah5:=
 .q bn (.k [0] (.n (.t .none (.d [(0,[],[]),(1,[1000006],[6]),(2,[],[]),(3,[1000008],[8]),(4,[1000006,1000008,1000009],[6,8,9,500006,500008]),(5,[1000009,1000010],[9,10,500009]),(6,[1000003,1000010],[3,10,500003,500010])]) (.t .none (.n (.o (.k [11] (.p ⟨[(3,.s (.ref 3 [])),(12,.v aO)],[(3,rk)]⟩ (.x 0 ⟨[(3,.s (.ref 3 []))],[(3,rk)]⟩) (.n (.n (.t .none (.o (.n (.d [(0,[500003],[]),(1,[1000003],[]),(2,[1000003,2000003],[]),(3,[2000003],[]),(4,[],[]),(5,[500003],[]),(6,[1000003],[]),(7,[1000003,4000003],[]),(8,[4000003],[]),(9,[],[]),(10,[2000003,3000003],[]),(11,[3000003],[3]),(12,[4000003,5000003],[]),(13,[5000003],[3])]))) .l))))))) .l)))) Tryz.func250 Tryz.call250 [(6,dL),(8,dL)]
def ah6:bh:=⟨251,[.m rk,.v aO,.v aO],[],K0⟩
theorem auQ:bg E ah6:=
 .q bn (.k [2] (.o (.p ⟨[(0,.s (.ref 0 [])),(1,.v aO)],[(0,rk)]⟩ (.x 0 ⟨[(0,.s (.ref 0 []))],[(0,rk)]⟩) (.t (.cR [1] ⟨[(0,.s (.ref 0 []))],[(0,rk)]⟩) .l (.o (.n (.n (.t (.x [6] ⟨[(0,.s (.ref 0 []))],[(0,rk)]⟩) .l .l)))))))) Tryz.func251 Tryz.call251
def ahp:bh:=⟨204,[.v nm],[dL,aO],KZ⟩
theorem auu:bg E ahp:=
 .q (aF auQ (aF auP (aF acE bn))) (.k [0] (.n (.n (.n (.n (.t .none (.n (.o (.k [20,21] (.p ⟨[(5,.s (.ref 5 [])),(22,.v aO)],[(5,rk)]⟩ (.x 0 ⟨[(5,.s (.ref 5 []))],[(5,rk)]⟩) (.n (.n (.t .none (.o (.n (.n (.o (.k [6,22,27,28] (.p ⟨[(5,.s (.ref 5 [])),(29,.v aO)],[(5,rk)]⟩ (.x 2 ⟨[(5,.s (.ref 5 []))],[(5,rk)]⟩) .l)))))) .l))))))) .l)))))) Tryz.func204 Tryz.call204 [(1,mE),(2,dL)]
def ahq:bh:=⟨205,[.v nm,.v gd,.v aO],[dL],Md⟩
theorem auv:bg E ahq:=
 .q bn (.k [0,1,2] (.n (.n (.n (.t .none (.n (.o (.k [23,24] (.p ⟨[(7,.s (.ref 7 [])),(25,.v aO)],[(7,ix)]⟩ (.x 0 ⟨[(7,.s (.ref 7 []))],[(7,ix)]⟩) (.n (.n (.t .none (.o (.n (.o (.k [25] (.p ⟨[(7,.s (.ref 7 [])),(9,.v aO)],[(7,ix)]⟩ (.x 2 ⟨[(7,.s (.ref 7 []))],[(7,ix)]⟩) (.t (.cR [9] ⟨[(7,.s (.ref 7 []))],[(7,ix)]⟩) .l .l)))))) .l))))))) (.n (.t .none (.n (.o (.k [52] (.p ⟨[(10,.s (.ref 10 [])),(51,.s (.ref 7 [])),(53,.v aO)],[(7,ix),(10,dL)]⟩ (.x 4 ⟨[(10,.s (.ref 10 []))],[(10,dL)]⟩) (.n (.n (.t (.x [53] ⟨[(10,.s (.ref 10 [])),(51,.s (.ref 7 []))],[(7,ix),(10,dL)]⟩) .l .l))))))) .l))))))) Tryz.func205 Tryz.call205 [(3,mE),(15,ix),(10,dL)]
def agi:bh:=⟨126,[.v nm],[(.osl dL),aO],Mc⟩
theorem atU:bg E agi:=
 .q (aF auv (aF auu bn)) (.k [0] (.n (.n (.n (.n (.t .none (.n (.o (.k [1,4,22] (.p ⟨[(6,.s (.ref 6 [])),(23,.v aO)],[(6,(.osl dL))]⟩ (.x 0 ⟨[(6,.s (.ref 6 []))],[(6,(.osl dL))]⟩) (.n (.n (.t .none (.o (.n (.n (.o (.k [7,23,30] (.p ⟨[(6,.s (.ref 6 [])),(29,.s (.ref 29 [])),(31,.v aO)],[(6,(.osl dL)),(29,dL)]⟩ (.x 2 ⟨[(6,.s (.ref 6 []))],[(6,(.osl dL))]⟩) .l)))))) .l))))))) .l)))))) Tryz.func126 Tryz.call126 [(1,mE),(4,hW),(20,(.osl dL)),(2,(.osl dL))] [(4,13000)]
def aiY:bh:=⟨56,[.v Kk],[sp],KL⟩
theorem avw:bg E aiY:=
 .q (aF atU bn) (.k [0] (.n (.n (.t .none (.d [(0,[],[]),(1,[],[]),(2,[],[]),(3,[],[]),(4,[],[]),(5,[1000023],[23]),(6,[],[]),(7,[],[]),(8,[],[]),(9,[],[]),(10,[1000028],[28]),(11,[],[]),(12,[],[]),(13,[],[]),(14,[],[]),(15,[1000033],[33]),(16,[1000023,1000028,1000033,1000034],[23,28,33,34,500023,500028,500033]),(17,[1000034,1000035],[34,35,500034]),(18,[1000005,1000035],[5,35,500005,500035])]) (.t .none (.n (.o (.k [36,37] (.p ⟨[(5,.s (.ref 5 [])),(38,.v aO)],[(5,sp)]⟩ (.x 0 ⟨[(5,.s (.ref 5 []))],[(5,sp)]⟩) (.n (.n (.t .none (.o (.n (.n (.o (.k [6,38,43,44] (.p ⟨[(5,.s (.ref 5 [])),(45,.v aO)],[(5,sp)]⟩ (.x 2 ⟨[(5,.s (.ref 5 []))],[(5,sp)]⟩) (.n (.n (.t (.x [45] ⟨[(5,.s (.ref 5 []))],[(5,sp)]⟩) (.o (.n (.n (.t .none (.d [(0,[500005],[]),(1,[1000005],[]),(2,[1000005,8000005],[]),(3,[8000005],[]),(4,[],[]),(5,[500005],[]),(6,[1000005],[]),(7,[1000005,8000005],[]),(8,[8000005],[]),(9,[],[]),(10,[8000005,9000005],[]),(11,[9000005],[]),(12,[],[]),(13,[1000065],[65]),(14,[66,1000065,9000005],[66,1500005,8500005]),(15,[8000005,9000005],[]),(16,[66,9000005],[5,66,500066])]) .l)))) .l))))))))) .l))))))) .l))))) Tryz.func56 Tryz.call56 [(23,qn),(28,(.osl (.mp cj))),(33,(.osl dL)),(3,(.bM .cL hW))] [(3,16000)]
def af7:bh:=⟨107,[.v Kk,.v aO,.v aO],[cj],Me⟩
theorem atM:bg E af7:=
 .q bn (.k [0,1,2] .l) Tryz.func107 Tryz.call107 [(6,cj)]
def agZ:bh:=⟨166,[.v cj,.v cj],[cj,cj,.bool],KY⟩
theorem auf:bg E agZ:=
 .q (aF EH bn) (.k [0,1] (.n (.n (.n (.t .none (.d [(0,[1000004],[]),(1,[1000005],[]),(2,[],[]),(3,[],[]),(4,[],[]),(5,[],[]),(6,[1000004],[4]),(7,[1000005],[5]),(8,[],[])]) .l))))) Tryz.func166 Tryz.call166 [(2,t5),(3,t5),(4,cj),(5,cj)]
def ahK:bh:=⟨224,[.v dM,.v dM],[dM],Lk⟩
theorem auE:bg E ahK:=
 .q (aF nR bn) (.k [0,1] (.n (.t (.cR [] ⟨[],[]⟩) .l (.n (.t .none (.n (.o (.k [26,27] (.p ⟨[(5,.s (.ref 5 [])),(28,.v aO)],[(5,cu)]⟩ (.x 0 ⟨[(5,.s (.ref 5 []))],[(5,cu)]⟩) (.n (.n (.t .none (.o (.n (.n (.t .none (.n (.o (.k [6,7,28,33,34] (.p ⟨[(5,.s (.ref 5 [])),(8,.v cf),(35,.v aO)],[(5,cu)]⟩ (.x 2 ⟨[(5,.s (.ref 5 [])),(8,.v cf)],[(5,cu)]⟩) .l)))) .l)))) .l))))))) (.t .none (.z [5] .l) .l)))))) Tryz.func224 Tryz.call224 [(25,cu)]
def ag1:bh:=⟨168,[.v bO,.v bO],[bO],F8⟩
theorem acB:bg E ag1:=
 .q (aF auE (aF wX (aF nR bn))) (.k [0,1] (.n (.t .none (.d [(0,[],[]),(1,[],[]),(2,[],[]),(3,[],[]),(4,[],[]),(5,[],[]),(6,[],[]),(7,[],[]),(8,[],[]),(9,[],[]),(10,[],[]),(11,[],[]),(12,[],[]),(13,[1000004],[4])]) .l))) Tryz.func168 Tryz.call168 [(2,fR),(3,fR),(4,bO)]
def af4:bh:=⟨103,[.v cj,.v cj],[cj],KR⟩
theorem atK:bg E af4:=
 .q (aF acB (aF Ue (aF auf (aF Ub bn)))) (.k [0,1] (.n (.n (.n (.t .none (.d [(0,[1000002,4000002],[]),(1,[4000002],[]),(2,[1000003,4000003],[]),(3,[4000003],[]),(4,[],[]),(5,[1000002,6000002],[]),(6,[6000002],[]),(7,[1000003,6000003],[]),(8,[6000003],[]),(9,[],[]),(10,[],[]),(11,[1000004],[4])]) .l))))) Tryz.func103 Tryz.call103 [(4,cj)]
def ag6:bh:=⟨173,[.v cj],[cj],KS⟩
theorem auh:bg E ag6:=
 .q (aF Ua (aF EH bn)) (.k [0] (.n (.n (.t (.x [] ⟨[(1,.s (.ref 1 [])),(2,.s (.ref 2 []))],[(1,hm),(2,hm)]⟩) .l .l)))) Tryz.func173 Tryz.call173 [(2,cj)]
def ag4:bh:=⟨170,[.v bO,.v aO],[bO],sB⟩
theorem IJ:bg E ag4:=
 .q (aF acQ bn) (.k [0,1] .l) Tryz.func170 Tryz.call170 [(4,bO)]
def aiz:bh:=⟨282,[.v e6],[.bool],KQ⟩
theorem avb:bg E aiz:=
 .q bn (.k [0] .l) Tryz.func282 Tryz.call282
def ail:bh:=⟨265,[.v e6,.v e6],[aO],KO⟩
theorem au1:bg E ail:=
 .q (aF avb bn) (.k [0,1] .l) Tryz.func265 Tryz.call265
def ahM:bh:=⟨226,[.v dM,.v dM],[aO],Az⟩
theorem Of:bg E ahM:=
 .q (aF au1 (aF acW bn)) (.k [0,1] (.n (.n (.t .none (.n (.o (.p ⟨[(5,.v aO)],[]⟩ (.cR 0 ⟨[],[]⟩) .l))) .l)))) Tryz.func226 Tryz.call226
def ahN:bh:=⟨227,[.v dM,.v dM],[dM],Dm⟩
theorem acP:bg E ahN:=
 .q (aF nR bn) (.k [0,1] (.n (.n (.n (.t .none (.n (.o (.k [13,14] (.p ⟨[(5,.s (.ref 5 [])),(6,.v cf),(15,.v aO)],[(5,cu)]⟩ (.x 0 ⟨[(5,.s (.ref 5 []))],[(5,cu)]⟩) (.n (.n (.t (.x [15] ⟨[(5,.s (.ref 5 [])),(6,.v cf)],[(5,cu)]⟩) (.o (.n (.n (.t (.x [7] ⟨[(5,.s (.ref 5 [])),(9,.v cf)],[(5,cu)]⟩) .l .l)))) .l))))))) (.t .none (.z [5] .l) .l)))))) Tryz.func227 Tryz.call227 [(12,cu)]
def ag2:bh:=⟨169,[.v bO,.v bO],[bO],Ay⟩
theorem Uf:bg E ag2:=
 .q (aF acP (aF Of (aF Oe (aF wX (aF nR bn))))) (.k [0,1] (.n (.n (.t .none (.o (.n (.t .none (.t .none (.d [(0,[],[]),(1,[],[]),(2,[],[]),(3,[],[]),(4,[],[]),(5,[],[]),(6,[1000004],[4])]) .l) (.n (.t .none (.t .none (.d [(0,[],[]),(1,[],[]),(2,[],[]),(3,[],[]),(4,[],[]),(5,[],[]),(6,[1000004],[4])]) .l) .l))))) (.t .none (.d [(0,[],[]),(1,[],[]),(2,[],[]),(3,[],[]),(4,[],[]),(5,[],[]),(6,[1000004],[4])]) .l))))) Tryz.func169 Tryz.call169 [(2,fR),(3,fR),(4,bO)]
def af5:bh:=⟨104,[.v (.bM .eN cj)],[cj],KX⟩
theorem atL:bg E af5:=
 .q (aF IJ (aF Uf (aF Ue (aF Ub (aF EH bn))))) (.k [0] (.n (.n (.n (.t .none (.n (.o (.k [12,13] (.p ⟨[(2,.s (.ref 2 [])),(3,.s (.ref 3 [])),(4,.v aO),(14,.v aO)],[(2,hm),(3,rl)]⟩ (.cR 0 ⟨[(2,.s (.ref 2 [])),(3,.s (.ref 3 [])),(4,.v aO)],[(2,hm),(3,rl)]⟩) .l)))) (.n (.t .none (.n (.o (.k [4,36] (.p ⟨[(2,.s (.ref 2 [])),(9,.s (.ref 9 [])),(35,.s (.ref 3 [])),(37,.v aO)],[(2,hm),(3,rl),(9,dV)]⟩ (.x 2 ⟨[(2,.s (.ref 2 [])),(9,.s (.ref 9 []))],[(2,hm),(9,dV)]⟩) (.n (.n (.t .none (.o (.n (.d [(0,[1000009],[]),(1,[1000011,4000011],[]),(2,[4000011],[]),(3,[1000011,6000011],[]),(4,[6000011],[]),(5,[],[]),(6,[],[]),(7,[],[]),(8,[],[]),(9,[1000009],[9])]))) .l))))))) .l))))))) Tryz.func104 Tryz.call104 [(2,cj),(3,rl),(6,cj),(7,cj),(9,bO),(11,cj)]
def agj:bh:=⟨127,[.v (.ptr .eN (.st (.pr (.bM .eN gd) (.pr (.bM .eN pM) (.pr (.bM .eN (.ey .eN cj)) (.pr (.bM .eN gd) .nil)))))),.v Kk,.v aO,.v aO],[cj],FV⟩
theorem atV:bg E agj:=
 .q (aF auh (aF atM (aF atL (aF atK bn)))) (.k [0,1,2,3] (.n (.n (.t .none (.n (.o (.k [25,26] (.p ⟨[(8,.s (.ref 8 [])),(9,.s (.ref 9 [])),(27,.v aO)],[(8,hm),(9,rl)]⟩ (.x 0 ⟨[(8,.s (.ref 8 [])),(9,.s (.ref 9 []))],[(8,hm),(9,rl)]⟩) (.n (.n (.t (.x [27] ⟨[(8,.s (.ref 8 [])),(9,.s (.ref 9 []))],[(8,hm),(9,rl)]⟩) (.o (.n (.n (.n (.t .none (.d [(0,[500009],[]),(1,[1000012],[]),(2,[],[]),(3,[],[]),(4,[],[]),(5,[],[]),(6,[],[]),(7,[],[]),(8,[],[]),(9,[],[]),(10,[],[]),(11,[],[]),(12,[],[]),(13,[1000057],[57]),(14,[1000009,1000057,1000058],[9,58,500009,500058]),(15,[1000009,1000058],[9,58,500009,500058])]) .l))))) .l))))))) .l)))) Tryz.func127 Tryz.call127 [(8,cj),(12,cj)]
def ajn:bh:=⟨85,[.v cj],[aO],x4⟩
theorem Ul:bg E ajn:=
 .q (aF BT (aF EH bn)) (.k [0] .l) Tryz.func85 Tryz.call85
def af6:bh:=⟨106,[.v cj],[cj],Df⟩
theorem acr:bg E af6:=
 .q (aF EH bn) (.k [0] .l) Tryz.func106 Tryz.call106 [(2,cj)]
def aiG:bh:=⟨292,[.v dM,.v e6],[dM,e6],Lj⟩
theorem avh:bg E aiG:=
 .q (aF nR bn) (.k [0,1] (.n (.n (.n (.t .none (.n (.o (.p ⟨[(6,.s (.ref 6 [])),(7,.v cf),(8,.v aO)],[(6,cu)]⟩ (.x 0 ⟨[(6,.s (.ref 6 [])),(7,.v cf)],[(6,cu)]⟩) .l))) (.t .none (.z [6] .l) .l)))))) Tryz.func292 Tryz.call292 [(12,cu)]
def aiH:bh:=⟨293,[.v e6],[aO],AC⟩
theorem ac0:bg E aiH:=
 .q (aF Ug bn) (.k [0] .l) Tryz.func293 Tryz.call293
def aiI:bh:=⟨294,[.w e6,.v dM],[e6],Ga⟩
theorem avi:bg E aiI:=
 .q bn (.k [1] (.n (.n (.t .none (.d [(0,[0],[]),(1,[],[]),(2,[0],[]),(3,[0],[]),(4,[],[]),(5,[],[]),(6,[0],[]),(7,[],[]),(8,[],[]),(9,[0],[]),(10,[0],[]),(11,[],[]),(12,[],[]),(13,[],[])]) (.n (.t .none (.o (.k [5] (.p ⟨[(0,.w 0),(7,.v cf),(8,.v cf)],[(0,cu)]⟩ (.x 0 ⟨[(0,.w 0),(7,.v cf)],[(0,cu)]⟩) (.t (.cR [7,8] ⟨[(0,.w 0)],[(0,cu)]⟩) (.t .none (.d [(0,[],[]),(1,[],[]),(2,[],[]),(3,[],[]),(4,[],[]),(5,[],[]),(6,[],[]),(7,[],[]),(8,[],[]),(9,[],[]),(10,[],[]),(11,[],[]),(12,[],[]),(13,[0],[]),(14,[],[]),(15,[],[]),(16,[0],[]),(17,[0],[]),(18,[],[]),(19,[],[]),(20,[],[]),(21,[],[])]) .l) .l)))) (.n (.t .none (.n (.o (.k [5,7,84,85] (.p ⟨[(0,.w 0),(9,.v cf),(10,.v cf),(86,.v aO)],[(0,cu)]⟩ (.x 2 ⟨[(0,.w 0),(9,.v cf),(10,.v cf)],[(0,cu)]⟩) .l)))) (.n (.n (.n (.n (.t .none (.n (.o (.k [5,7,140,141] (.p ⟨[(0,.w 0),(9,.v cf),(142,.v aO)],[(0,cu)]⟩ (.x 4 ⟨[(0,.w 0),(9,.v cf)],[(0,cu)]⟩) .l)))) .l))))))))))))) Tryz.func294 Tryz.call294
def aix:bh:=⟨280,[.v dM,.v dM],[dM,dM],Gb⟩
theorem acY:bg E aix:=
 .q (aF avi (aF ac0 (aF avh (aF Uj (aF Ui (aF Of (aF Od (aF nR bn)))))))) (.k [0,1] (.n (.n (.n (.n (.n (.n (.n (.n (.n (.t .none (.n (.o (.k [8,9,11] (.p ⟨[(4,.s (.ref 4 [])),(10,.s (.ref 10 [])),(12,.v aO)],[(4,cu),(10,cu)]⟩ (.x 0 ⟨[(4,.s (.ref 4 [])),(10,.s (.ref 10 []))],[(4,cu),(10,cu)]⟩) .l)))) (.t .none (.z [10] .l) (.t .none (.z [4] .l) .l))))))))))))) Tryz.func280 Tryz.call280 [(47,cu),(59,cu),(5,dM)] [(5,18),(33,32)]
def aiw:bh:=⟨279,[.v dM],[dM],Li⟩
theorem au9:bg E aiw:=
 .q (aF acY (aF Uj (aF Ui (aF acV (aF Of (aF Oe bn)))))) (.k [0] (.n (.n (.n (.o (.p ⟨[(3,.v dM)],[]⟩ .r .l)))))) Tryz.func279 Tryz.call279 [] [(16,11)]
def aic:bh:=⟨257,[.v bO],[bO,aO],Lg⟩
theorem auV:bg E aic:=
 .q (aF au9 (aF wX (aF nR (aF BT bn)))) (.k [0] .l) Tryz.func257 Tryz.call257 [(1,fR),(2,bO)]
def ag7:bh:=⟨175,[.v bO,.v bO],[aO],F7⟩
theorem acD:bg E ag7:=
 .q (aF Of (aF nR (aF BT bn))) (.k [0,1] .l) Tryz.func175 Tryz.call175 [(2,fR),(3,fR)]
def ahs:bh:=⟨207,[.v cj,.v aO],[pL],KW⟩
theorem auw:bg E ahs:=
 .q (aF auV (aF IL (aF acD (aF IJ (aF acB bn))))) (.k [0,1] (.n (.n (.t (.x [2] ⟨[(4,.s (.ref 4 [])),(5,.v aO)],[(4,(.optr pL))]⟩) .l (.n (.n (.t .none (.d [(0,[1000007],[]),(1,[],[]),(2,[],[]),(3,[],[]),(4,[],[]),(5,[],[]),(6,[1000007],[]),(7,[1000007],[]),(8,[],[]),(9,[1000006],[]),(10,[],[]),(11,[],[]),(12,[],[]),(13,[1000004],[4])]) .l))))))) Tryz.func207 Tryz.call207 [(2,t5),(4,pL),(6,bO),(7,bO)]
def ah7:bh:=⟨252,[.v pL],[aO],KU⟩
theorem auR:bg E ah7:=
 .q (aF IL bn) (.k [0] .l) Tryz.func252 Tryz.call252 [(1,(.ptr .cL pL))]
def aiF:bh:=⟨291,[.v bO,.v bO],[bO],Lh⟩
theorem avg:bg E aiF:=
 .q (aF Uf bn) (.k [0,1] .l) Tryz.func291 Tryz.call291 [(2,fR),(4,bO)]
def aiv:bh:=⟨278,[.v pL,.v aO],[bO,aO,.bool],FW⟩
theorem au8:bg E aiv:=
 .q (aF avg (aF acN (aF IL (aF acD (aF IJ (aF T9 (aF BT bn))))))) (.k [0,1] (.n (.n (.n (.n (.t .none (.d [(0,[],[]),(1,[],[]),(2,[1000004],[]),(3,[],[]),(4,[],[]),(5,[],[]),(6,[1000008],[8]),(7,[1000008],[8])]) (.t .none (.d [(0,[1000008],[]),(1,[],[]),(2,[],[]),(3,[],[]),(4,[],[]),(5,[],[]),(6,[],[])]) (.t (.x [2] ⟨[(4,.s (.ref 4 [])),(5,.v aO),(8,.s (.ref 8 []))],[(4,dV),(8,dV)]⟩) .l (.t .none (.d [(0,[1000004],[]),(1,[],[]),(2,[1000008],[]),(3,[],[]),(4,[],[]),(5,[],[]),(6,[],[]),(7,[],[]),(8,[],[]),(9,[],[]),(10,[1000004],[4]),(11,[],[]),(12,[],[])]) .l))))))))) Tryz.func278 Tryz.call278 [(2,(.ptr .cL pL)),(4,bO),(8,bO)]
def ah9:bh:=⟨254,[.v pL,.v aO,.v aO],[bO],KV⟩
theorem auT:bg E ah9:=
 .q (aF au8 (aF acM (aF IJ (aF Uf (aF Ua (aF T9 (aF BT bn))))))) (.k [0,1,2] (.n (.n (.t (.x [3] ⟨[(6,.s (.ref 6 [])),(7,.s (.ref 7 [])),(8,.v aO),(9,.v .bool)],[(6,dV),(7,dV)]⟩) .l (.n (.t (.x [3] ⟨[(6,.s (.ref 6 [])),(7,.s (.ref 7 [])),(10,.v .bool)],[(6,dV),(7,dV)]⟩) .l (.t (.x [3] ⟨[(6,.s (.ref 6 [])),(7,.s (.ref 7 []))],[(6,dV),(7,dV)]⟩) (.n (.t .none (.d [(0,[1000007],[]),(1,[],[]),(2,[],[]),(3,[1000007],[7])]) .l)) (.t (.x [] ⟨[(6,.s (.ref 6 [])),(7,.s (.ref 7 []))],[(6,dV),(7,dV)]⟩) .l .l)))))))) Tryz.func254 Tryz.call254 [(3,(.ptr .cL pL)),(6,bO),(7,bO)]
def ag5:bh:=⟨171,[.v bO],[bO],Di⟩
theorem acC:bg E ag5:=
 .q (aF Od (aF wX bn)) (.k [0] .l) Tryz.func171 Tryz.call171 [(1,fR),(2,bO)] [(6,5)]
def ah8:bh:=⟨253,[.v bO],[aO,.bool],Le⟩
theorem auS:bg E ah8:=
 .q (aF nR bn) (.k [0] (.n (.n (.n (.n (.t .none (.n (.o (.k [1,14,15] (.p ⟨[(5,.v cf),(16,.v aO)],[]⟩ (.x 0 ⟨[(5,.v cf)],[]⟩) .l)))) (.t (.cR [] ⟨[],[]⟩) (.o (.t (.x [1,5] ⟨[(29,.v .bool)],[]⟩) .l (.n (.t (.x [5] ⟨[(45,.v .bool)],[]⟩) .l .l)))) .l))))))) Tryz.func253 Tryz.call253 [(1,fR)]
def aia:bh:=⟨255,[.v cf,.v .bool],[cf],Ax⟩
theorem acT:bg E aia:=
 .q bn (.k [0,1] .l) Tryz.func255 Tryz.call255
def aib:bh:=⟨256,[.v .bool,.v aO],[cf],K6⟩
theorem auU:bg E aib:=
 .q (aF acT bn) (.k [0,1] (.n (.t (.cR [] ⟨[],[]⟩) (.t (.x [] ⟨[(21,.v .bool)],[]⟩) .l .l) .l))) Tryz.func256 Tryz.call256
def ahr:bh:=⟨206,[.v pL,.v aO],[cf],FZ⟩
theorem acK:bg E ahr:=
 .q (aF auU (aF acT (aF auT (aF auS (aF auR (aF acC bn)))))) (.k [0,1] (.n (.n (.n (.n (.t (.x [2] ⟨[(5,.v aO),(8,.v cf)],[]⟩) .l .l)))))) Tryz.func206 Tryz.call206 [(2,(.ptr .cL pL))]
def agk:bh:=⟨128,[.v cj,.v aO],[cf],K4⟩
theorem atW:bg E agk:=
 .q (aF Ul (aF auw (aF acK (aF acr bn)))) (.k [0,1] (.n (.n (.t (.cR [] ⟨[(2,.s (.ref 2 []))],[(2,hm)]⟩) (.o (.t (.x [] ⟨[(2,.s (.ref 2 [])),(7,.v .bool)],[(2,hm)]⟩) .l .l)) .l)))) Tryz.func128 Tryz.call128
def agl:bh:=⟨129,[.v cf],[aO],K2⟩
theorem atX:bg E agl:=
 .q (aF T8 bn) (.k [0] (.n (.n (.t .none (.o (.t (.x [3,4] ⟨[(10,.v .bool)],[]⟩) .l .l)) .l)))) Tryz.func129 Tryz.call129
def aid:bh:=⟨258,[.v bO,.v bO],[bO,bO,aO],Ld⟩
theorem auW:bg E aid:=
 .q (aF acY (aF acP (aF Oe (aF wX (aF nR bn))))) (.k [0,1] (.n (.n (.n (.n (.t (.x [2,3] ⟨[(4,.s (.ref 4 [])),(5,.s (.ref 5 [])),(8,.v dM),(9,.v dM)],[(4,dV),(5,dV)]⟩) (.t (.x [7,8,9] ⟨[(4,.s (.ref 4 [])),(5,.s (.ref 5 [])),(32,.v .bool)],[(4,dV),(5,dV)]⟩) .l .l) .l)))))) Tryz.func258 Tryz.call258 [(2,fR),(3,fR),(4,bO),(5,bO)] [(35,34)]
def aht:bh:=⟨208,[.v cj,.v cj,.v aO],[pL],KT⟩
theorem aux:bg E aht:=
 .q (aF auW (aF IL (aF acC (aF IJ (aF BT bn))))) (.k [0,1,2] (.n (.n (.t .none (.d [(0,[],[]),(1,[],[]),(2,[],[]),(3,[],[]),(4,[],[]),(5,[],[]),(6,[],[]),(7,[],[]),(8,[],[]),(9,[],[]),(10,[],[]),(11,[],[]),(12,[],[]),(13,[1000008],[8]),(14,[1000009],[9]),(15,[1000008],[8]),(16,[1000009],[9]),(17,[],[])]) (.t .none (.d [(0,[],[]),(1,[],[]),(2,[],[]),(3,[],[]),(4,[],[]),(5,[],[]),(6,[],[]),(7,[1000008],[]),(8,[],[]),(9,[],[]),(10,[],[]),(11,[],[]),(12,[],[]),(13,[],[]),(14,[],[]),(15,[1000009],[]),(16,[],[]),(17,[],[]),(18,[],[]),(19,[1000006],[6])]) .l))))) Tryz.func208 Tryz.call208 [(3,t5),(4,t5),(6,pL),(8,bO),(9,bO)]
def agn:bh:=⟨130,[.v cj,.v cj,.v aO],[cf],K3⟩
theorem atY:bg E agn:=
 .q (aF Ul (aF aux (aF acK (aF acr bn)))) (.k [0,1,2] (.n (.t .none (.d [(0,[1000003],[]),(1,[],[]),(2,[1000004],[]),(3,[],[]),(4,[1000003],[3]),(5,[1000004],[4])]) (.t (.cR [] ⟨[(3,.s (.ref 3 [])),(4,.s (.ref 4 []))],[(3,hm),(4,hm)]⟩) (.o (.t (.x [] ⟨[(3,.s (.ref 3 [])),(4,.s (.ref 4 [])),(11,.v .bool)],[(3,hm),(4,hm)]⟩) .l .l)) .l)))) Tryz.func130 Tryz.call130
def aiZ:bh:=⟨57,[.m sp,.v Kk,.v aO],[aO],KM⟩
theorem avx:bg E aiZ:=
 .q (aF adb (aF Ul (aF ada (aF atY (aF atX (aF atW (aF atV bn))))))) (.k [1,2] (.n (.n (.n (.n (.n (.t .none (.d [(0,[500000],[]),(1,[1000000],[]),(2,[1000000,4000000],[]),(3,[4000000],[]),(4,[],[]),(5,[500000],[]),(6,[1000000],[]),(7,[1000000,6000000],[]),(8,[6000000],[]),(9,[],[]),(10,[],[]),(11,[1000036],[36]),(12,[1000037],[37]),(13,[],[]),(14,[],[]),(15,[],[]),(16,[1000037],[37]),(17,[500037],[]),(18,[4000000,5000000],[]),(19,[1000036,5000000],[0,36,500036]),(20,[6000000,7000000],[]),(21,[1000037,7000000],[0,37,500037])]) (.n (.t .none (.n (.o (.k [8,54,55] (.p ⟨[(0,.s (.ref 0 [])),(56,.v aO)],[(0,sp)]⟩ (.cR 0 ⟨[(0,.s (.ref 0 []))],[(0,sp)]⟩) (.n (.n (.t .none (.o (.n (.n (.n (.d [(0,[500000],[]),(1,[1000000],[]),(2,[1000000,4000000],[]),(3,[4000000],[]),(4,[],[]),(5,[500000],[]),(6,[1000000],[]),(7,[1000000,6000000],[]),(8,[6000000],[]),(9,[],[]),(10,[6000000,7000000],[]),(11,[7000000],[]),(12,[],[]),(13,[500000],[]),(14,[1000000],[]),(15,[1000000,4000000],[]),(16,[4000000],[]),(17,[],[]),(18,[4000000,5000000],[]),(19,[5000000],[]),(20,[],[]),(21,[1000092],[92]),(22,[93,1000092,5000000],[93,1500000,4500000,6500000,7500000]),(23,[],[]),(24,[],[]),(25,[4000000,5000000],[]),(26,[93,5000000],[0,93,500093]),(27,[0,7000000],[0]),(28,[0],[]),(29,[0,7000000],[0])]))))) .l))))))) .l))))))))) Tryz.func57 Tryz.call57 [(7,cj),(37,(.mp cj))]
def ago:bh:=⟨131,[.v gd],[dL],Lt⟩
theorem atZ:bg E ago:=
 .q bn (.k [0] .l) Tryz.func131 Tryz.call131 [(2,dL)]
def ai0:bh:=⟨58,[.v (.ptr .eN (.st (.pr (.bM .eN gd) (.pr (.bM .eN pM) (.pr (.bM .eN (.ey .eN cj)) (.pr (.bM .eN gd) .nil)))))),.v gd],[rm],KN⟩
theorem avy:bg E ai0:=
 .q (aF atZ bn) (.k [0,1] (.n (.n (.t .none (.n (.o (.k [15] (.p ⟨[(4,.s (.ref 4 [])),(5,.s (.ref 5 [])),(16,.v aO)],[(4,ka),(5,ka)]⟩ (.x 0 ⟨[(4,.s (.ref 4 [])),(5,.s (.ref 5 []))],[(4,ka),(5,ka)]⟩) (.n (.n (.t .none (.o (.n (.t .none (.d [(0,[1000005,6000005],[]),(1,[6000005],[]),(2,[],[]),(3,[],[]),(4,[],[]),(5,[],[]),(6,[],[]),(7,[],[]),(8,[],[]),(9,[28,6000005,7000005],[28,1500005]),(10,[1000005,6000005],[]),(11,[28,6000005,7000005],[5,28,500028])]) (.t .none (.d [(0,[1000005,8000005],[]),(1,[8000005],[]),(2,[],[]),(3,[],[]),(4,[],[]),(5,[],[]),(6,[],[]),(7,[],[]),(8,[],[]),(9,[39,8000005,9000005],[39,1500005]),(10,[1000005,8000005],[]),(11,[39,8000005,9000005],[5,39,500039])]) .l)))) .l))))))) .l)))) Tryz.func58 Tryz.call58 [(4,rm),(10,rm),(5,rm)]
def agm:bh:=⟨13,[.v jS,.v gd],[vA,aO,aO],ue⟩
theorem act:bg E agm:=
 .q (aF avy (aF avx (aF avw (aF avv bn)))) (.k [0,1] (.n (.n (.n (.n (.t .none (.n (.o (.k [7,27] (.p ⟨[(4,.s (.ref 4 [])),(9,.s (.ref 9 [])),(28,.v aO)],[(4,WD),(9,sp)]⟩ (.cR 0 ⟨[(4,.s (.ref 4 [])),(9,.s (.ref 9 []))],[(4,WD),(9,sp)]⟩) .l)))) (.t .none (.d [(0,[500009],[]),(1,[],[]),(2,[1000009,1000048],[48]),(3,[],[]),(4,[],[]),(5,[],[]),(6,[],[]),(7,[1000004,1000048],[4,48,500048]),(8,[],[]),(9,[],[])]) .l))))))) Tryz.func13 Tryz.call13 [(2,np),(4,vA)] [(999999,48)]
def ahk:bh:=⟨20,[.v gd,.v gd],[.bool],AE⟩
theorem acH:bg E ahk:=
 .q bn (.k [0,1] (.n (.n (.t .none (.n (.o (.p ⟨[(5,.v aO)],[]⟩ (.cR 0 ⟨[],[]⟩) .l))) .l)))) Tryz.func20 Tryz.call20
def aiV:bh:=⟨53,[.v pM,.v pM],[.bool],LD⟩
theorem ac4:bg E aiV:=
 .q bn (.k [0,1] (.n (.n (.t .none (.n (.o (.p ⟨[(5,.v aO)],[]⟩ (.cR 0 ⟨[],[]⟩) .l))) .l)))) Tryz.func53 Tryz.call53
def af8:bh:=⟨11,[],[.bool],Gk⟩
theorem atN:bg E af8:=
 .q (aF ac4 (aF ac3 (aF acH (aF act bn)))) .l Tryz.func11 Tryz.call11 [(4,vA)] [(17,11),(17,12),(17,16)]
def ahv:bh:=⟨21,[.v aO,.v aO],[aO],x7⟩
theorem IK:bg E ahv:=
 .q bn (.k [0,1] .l) Tryz.func21 Tryz.call21
def aiS:bh:=⟨50,[.v pM,.v aO],[cf],Gi⟩
theorem ac2:bg E aiS:=
 .q (aF IK bn) (.k [0,1] (.n (.n (.t (.x [] ⟨[(5,.v cf)],[]⟩) .l .l)))) Tryz.func50 Tryz.call50
def ai9:bh:=⟨67,[.v cf],[.bool],AH⟩
theorem Oh:bg E ai9:=
 .q bn (.k [0] .l) Tryz.func67 Tryz.call67
def agY:bh:=⟨164,[.v cf],[cf],QB⟩
theorem aue:bg E agY:=
 .q (aF ac3 bn) (.k [0] .l) Tryz.func164 Tryz.call164
def ajz:bh:=⟨99,[.v cf,.v aO],[cf],LB⟩
theorem avN:bg E ajz:=
 .q (aF Oh (aF IK (aF aue bn))) (.k [0,1] .l) Tryz.func99 Tryz.call99
def aiR:bh:=⟨35,[.v pM,.v aO,.v aO,.v aO],[mD],Gf⟩
theorem ac1:bg E aiR:=
 .q (aF avN (aF ac2 bn)) (.k [0,1,2,3] (.n (.n (.t .none (.n (.o (.p ⟨[(8,.s (.ref 8 [])),(9,.s (.ref 9 [])),(10,.v aO)],[(8,ez),(9,ez)]⟩ (.x 0 ⟨[(8,.s (.ref 8 [])),(9,.s (.ref 9 []))],[(8,ez),(9,ez)]⟩) (.n (.t .none (.o (.t .none (.n (.o (.k [10] (.p ⟨[(8,.s (.ref 8 [])),(9,.s (.ref 9 [])),(11,.v aO)],[(8,ez),(9,ez)]⟩ (.x 2 ⟨[(8,.s (.ref 8 [])),(9,.s (.ref 9 []))],[(8,ez),(9,ez)]⟩) (.n (.t (.x [11] ⟨[(8,.s (.ref 8 [])),(9,.s (.ref 9 []))],[(8,ez),(9,ez)]⟩) (.o (.n (.n (.t .none (.n (.d [(0,[1000009,10000009],[]),(1,[10000009],[]),(2,[],[]),(3,[],[]),(4,[],[]),(5,[1000050],[50]),(6,[51,1000050,10000009,11000009],[51,1500009]),(7,[1000009,10000009],[]),(8,[51,10000009,11000009],[9,51,500051])])) .l)))) .l)))))) .l)) .l))))) .l)))) Tryz.func35 Tryz.call35 [(8,mD),(16,mD),(9,mD)]
def ags:bh:=⟨135,[.v pM],[.bool],LX⟩
theorem at3:bg E ags:=
 .q (aF Oh bn) (.k [0] (.n (.t .none (.n (.o (.p ⟨[(3,.v aO)],[]⟩ (.cR 0 ⟨[],[]⟩) .l))) .l))) Tryz.func135 Tryz.call135
def aja:bh:=⟨68,[.v jS],[aO],vT⟩
theorem IM:bg E aja:=
 .q (aF at3 bn) (.k [0] (.n (.t (.cR [1] ⟨[],[]⟩) .l (.n (.t (.cR [1] ⟨[],[]⟩) .l (.t .none (.n (.o (.k [1] (.p ⟨[(4,.v aO)],[]⟩ (.cR 0 ⟨[],[]⟩) .l)))) (.t .none (.n (.o (.k [1] (.p ⟨[(5,.v aO)],[]⟩ (.cR 2 ⟨[],[]⟩) (.n (.t .none (.o (.n (.o (.k [5] (.p ⟨[(6,.v aO)],[]⟩ (.cR 4 ⟨[],[]⟩) (.n (.t (.cR [6] ⟨[],[]⟩) .l .l))))))) .l)))))) .l))))))) Tryz.func68 Tryz.call68 [(1,np)]
def ah4:bh:=⟨25,[.v jS,.v aO,.v aO],[cf],x9⟩
theorem acS:bg E ah4:=
 .q (aF IM bn) (.k [0,1,2] (.n (.t (.cR [3] ⟨[],[]⟩) .l (.t .none (.n (.o (.k [3] (.p ⟨[(7,.v aO)],[]⟩ (.cR 0 ⟨[],[]⟩) .l)))) .l)))) Tryz.func25 Tryz.call25 [(3,np)]
def ajr:bh:=⟨89,[.v cf],[.bool],LU⟩
theorem avM:bg E ajr:=
 .q bn (.k [0] .l) Tryz.func89 Tryz.call89
def ahT:bh:=⟨24,[.v cf],[cj],x8⟩
theorem Og:bg E ahT:=
 .q (aF avM (aF BV (aF IN (aF Oh bn)))) (.k [0] (.n (.n (.n (.n (.t (.x [] ⟨[(2,.s (.ref 2 [])),(4,.v cf),(5,.v aO)],[(2,hm)]⟩) .l .l)))))) Tryz.func24 Tryz.call24 [(2,cj)] [(30,29)]
def aiM:bh:=⟨30,[.v cj],[cj],LM⟩
theorem avn:bg E aiM:=
 .q (aF IQ (aF y9 (aF BV bn))) (.k [0] (.n (.n (.n (.t .none (.d [(0,[1000001,4000001],[]),(1,[4000001],[]),(2,[],[]),(3,[1000001,6000001],[]),(4,[6000001],[]),(5,[],[]),(6,[1000002],[2])]) .l))))) Tryz.func30 Tryz.call30 [(2,cj)]
def aiE:bh:=⟨29,[.v (.bM .eN cj)],[cj],Gw⟩
theorem acZ:bg E aiE:=
 .q (aF EI (aF IP (aF uR (aF y9 (aF BV (aF IN bn)))))) (.k [0] (.n (.n (.t .none (.n (.o (.p ⟨[(2,.s (.ref 2 [])),(3,.s (.ref 3 [])),(4,.v aO),(5,.v aO)],[(2,hm),(3,dV)]⟩ (.cR 0 ⟨[(2,.s (.ref 2 [])),(3,.s (.ref 3 [])),(4,.v aO)],[(2,hm),(3,dV)]⟩) (.n (.t (.cR [5] ⟨[(2,.s (.ref 2 [])),(3,.s (.ref 3 [])),(4,.v aO)],[(2,hm),(3,dV)]⟩) (.o (.n (.n (.n (.o (.n (.t .none (.d [(0,[1000006,4000006],[]),(1,[4000006],[]),(2,[1000006,6000006],[]),(3,[6000006],[]),(4,[1000003],[3]),(5,[],[])]) (.n (.t .none (.d [(0,[1000003],[]),(1,[1000006,4000006],[]),(2,[4000006],[]),(3,[1000006,6000006],[]),(4,[6000006],[]),(5,[],[]),(6,[],[]),(7,[],[]),(8,[],[]),(9,[1000003],[3])]) (.d [(0,[1000003],[]),(1,[],[]),(2,[1000006,6000006],[]),(3,[6000006],[]),(4,[],[]),(5,[],[]),(6,[1000006,4000006],[]),(7,[4000006],[]),(8,[],[]),(9,[1000006,6000006],[]),(10,[6000006],[]),(11,[1000003],[3]),(12,[],[])])))))))))) .l))))) .l)))) Tryz.func29 Tryz.call29 [(2,cj),(3,bO),(6,cj)]
def agb:bh:=⟨120,[.v jS,.v aO,.v aO],[.bool],GA⟩
theorem atP:bg E agb:=
 .q bn (.k [0,1,2] (.n (.t (.cR [3] ⟨[],[]⟩) .l (.t .none (.n (.o (.k [3] (.p ⟨[(7,.v aO)],[]⟩ (.cR 0 ⟨[],[]⟩) .l)))) .l)))) Tryz.func120 Tryz.call120 [(3,np)]
def aiW:bh:=⟨54,[.v pM,.v aO,.v aO],[mD],LA⟩
theorem avu:bg E aiW:=
 .q (aF ac9 (aF ac1 (aF avn (aF acZ (aF acS (aF Og (aF IK (aF atP (aF acs bn))))))))) (.k [0,1,2] (.n (.n (.n (.t .none (.n (.o (.p ⟨[(6,.s (.ref 6 [])),(7,.s (.ref 7 [])),(8,.s (.ref 8 [])),(9,.v aO)],[(6,ez),(7,ez),(8,ez)]⟩ (.x 0 ⟨[(6,.s (.ref 6 [])),(8,.s (.ref 8 []))],[(6,ez),(8,ez)]⟩) (.n (.t .none (.o (.t .none (.n (.o (.k [9] (.p ⟨[(6,.s (.ref 6 [])),(7,.s (.ref 7 [])),(8,.s (.ref 8 [])),(10,.v aO)],[(6,ez),(7,ez),(8,ez)]⟩ (.x 2 ⟨[(6,.s (.ref 6 [])),(7,.s (.ref 7 [])),(8,.s (.ref 8 []))],[(6,ez),(7,ez),(8,ez)]⟩) (.n (.t (.x [10] ⟨[(6,.s (.ref 6 [])),(7,.s (.ref 7 [])),(8,.s (.ref 8 []))],[(6,ez),(7,ez),(8,ez)]⟩) (.o (.n (.t .none (.n (.t .none (.n (.o (.p ⟨[(6,.s (.ref 6 [])),(7,.s (.ref 7 [])),(8,.s (.ref 8 [])),(11,.s (.ref 11 [])),(12,.v aO)],[(6,ez),(7,ez),(8,ez),(11,rl)]⟩ (.x 4 ⟨[(6,.s (.ref 6 [])),(7,.s (.ref 7 [])),(8,.s (.ref 8 [])),(11,.s (.ref 11 []))],[(6,ez),(7,ez),(8,ez),(11,rl)]⟩) (.n (.t (.x [12] ⟨[(6,.s (.ref 6 [])),(7,.s (.ref 7 [])),(8,.s (.ref 8 [])),(11,.s (.ref 11 []))],[(6,ez),(7,ez),(8,ez),(11,rl)]⟩) .l .l))))) (.n (.d [(0,[1000008,10000008],[]),(1,[10000008],[]),(2,[500011],[]),(3,[1000011],[]),(4,[],[]),(5,[1000070],[70]),(6,[71,1000070,10000008,11000008],[71,1500008]),(7,[1000008,10000008],[]),(8,[71,10000008,11000008],[8,71,500071])])))) (.n (.t .none (.n (.d [(0,[1000008,10000008],[]),(1,[10000008],[]),(2,[7,1000007],[]),(3,[],[]),(4,[],[]),(5,[7],[]),(6,[1000089],[89]),(7,[90,1000089,10000008,11000008],[90,1500008]),(8,[1000008,10000008],[]),(9,[90,10000008,11000008],[8,90,500090])])) .l))))) .l)))))) .l)) .l))))) .l))))) Tryz.func54 Tryz.call54 [(6,mD),(7,mD),(22,mD),(8,mD)]
def aiT:bh:=⟨51,[.v pM,.v aO],[hW],Gg⟩
theorem avt:bg E aiT:=
 .q (aF ac2 (aF IK bn)) (.k [0,1] (.n (.n (.t .none (.n (.o (.p ⟨[(5,.v hW),(6,.v aO)],[]⟩ (.x 0 ⟨[(5,.v hW)],[]⟩) (.n (.t .none (.o (.n (.d [(0,[1000023],[23]),(1,[],[]),(2,[],[]),(3,[],[]),(4,[1000023,1000027],[23,27,500023,500027]),(5,[],[]),(6,[1000029],[29]),(7,[1000027,1000029,1000030],[27,30,500027,500030]),(8,[],[]),(9,[],[]),(10,[],[]),(11,[1000030,1000034],[30,34,500030,500034]),(12,[1000034],[34,500034])]))) .l))))) .l)))) Tryz.func51 Tryz.call51 [(5,hW)] [(5,8),(5,34)]
def aga:bh:=⟨12,[.v pM,.v aO,.v aO,.v .bool],[n9,hW],LG⟩
theorem atO:bg E aga:=
 .q (aF avu (aF avt (aF ac1 (aF IK bn)))) (.k [0,2,3] .l) Tryz.func12 Tryz.call12 [(8,n9)] [(999999,16),(999999,24)]
def agp:bh:=⟨132,[.v gd,.v aO],[.bool],Ma⟩
theorem at0:bg E agp:=
 .q bn (.k [0,1] (.n (.n (.n (.t .none (.n (.o (.p ⟨[(5,.s (.ref 5 [])),(6,.v aO)],[(5,ix)]⟩ (.cR 0 ⟨[],[]⟩) (.n (.t (.cR [6] ⟨[(5,.s (.ref 5 []))],[(5,ix)]⟩) (.o (.t (.cR [] ⟨[(5,.s (.ref 5 []))],[(5,ix)]⟩) .l .l)) .l))))) .l))))) Tryz.func132 Tryz.call132 [(12,ix)]
def ai1:bh:=⟨59,[.v jS,.v gd],[aO],Mb⟩
theorem avz:bg E ai1:=
 .q (aF IM (aF at0 bn)) (.k [0,1] .l) Tryz.func59 Tryz.call59 [(2,np)]
def ajb:bh:=⟨69,[.v jS],[fI],Gz⟩
theorem ac5:bg E ajb:=
 .q (aF IM bn) (.k [0] (.n (.n (.n (.t .none (.n (.o (.k [1] (.p ⟨[(3,.s (.ref 3 [])),(4,.v aO)],[(3,fI)]⟩ (.x 0 ⟨[(3,.s (.ref 3 []))],[(3,fI)]⟩) (.n (.t .none (.o (.n (.o (.k [4] (.p ⟨[(3,.s (.ref 3 [])),(5,.v aO)],[(3,fI)]⟩ (.x 2 ⟨[(3,.s (.ref 3 []))],[(3,fI)]⟩) (.n (.t .none (.o (.d [(0,[500003],[]),(1,[],[]),(2,[],[]),(3,[],[]),(4,[],[]),(5,[],[]),(6,[],[]),(7,[],[]),(8,[],[]),(9,[],[]),(10,[],[]),(11,[],[]),(12,[],[]),(13,[1000043],[43]),(14,[1000003,1000043,1000044],[3,44,500003,500044]),(15,[1000003,1000044],[3,44,500003,500044])])) .l))))))) .l)))))) .l))))) Tryz.func69 Tryz.call69 [(1,np),(3,fI),(2,fI)]
def ajc:bh:=⟨70,[.v aO,.v aO,.v (.bM .eN n8)],[mD],LZ⟩
theorem avH:bg E ajc:=
 .q bn (.k [0,1,2] (.n (.n (.n (.t .none (.n (.o (.p ⟨[(6,.s (.ref 6 [])),(7,.s (.ref 7 [])),(8,.s (.ref 8 [])),(9,.v aO)],[(6,ez),(7,ez),(8,dL)]⟩ (.x 0 ⟨[(6,.s (.ref 6 [])),(7,.s (.ref 7 [])),(8,.s (.ref 8 []))],[(6,ez),(7,ez),(8,dL)]⟩) (.n (.t .none (.o (.d [(0,[500008],[]),(1,[],[]),(2,[],[]),(3,[],[]),(4,[],[]),(5,[],[]),(6,[],[]),(7,[],[]),(8,[],[]),(9,[],[]),(10,[],[]),(11,[],[]),(12,[],[]),(13,[],[]),(14,[],[]),(15,[],[]),(16,[8,1000008],[]),(17,[8],[8])])) .l))))) (.t .none (.n (.o (.p ⟨[(6,.s (.ref 6 [])),(7,.s (.ref 7 [])),(8,.s (.ref 8 [])),(10,.v aO)],[(6,ez),(7,ez),(8,dL)]⟩ (.x 2 ⟨[(6,.s (.ref 6 [])),(7,.s (.ref 7 []))],[(6,ez),(7,ez)]⟩) (.n (.t .none (.o (.t .none (.n (.o (.k [10] (.p ⟨[(6,.s (.ref 6 [])),(7,.s (.ref 7 [])),(8,.s (.ref 8 [])),(11,.v aO)],[(6,ez),(7,ez),(8,dL)]⟩ (.x 4 ⟨[(6,.s (.ref 6 [])),(7,.s (.ref 7 [])),(8,.s (.ref 8 []))],[(6,ez),(7,ez),(8,dL)]⟩) (.n (.t (.x [11] ⟨[(6,.s (.ref 6 [])),(7,.s (.ref 7 [])),(8,.s (.ref 8 []))],[(6,ez),(7,ez),(8,dL)]⟩) (.o (.n (.n (.t .none (.n (.d [(0,[1000007,10000007],[]),(1,[10000007],[]),(2,[],[]),(3,[],[]),(4,[],[]),(5,[],[]),(6,[],[]),(7,[],[]),(8,[1000078],[78]),(9,[79,1000078,10000007,11000007],[79,1500007]),(10,[1000007,10000007],[]),(11,[79,10000007,11000007],[7,79,500079])])) .l)))) .l)))))) .l)) .l))))) .l)))))) Tryz.func70 Tryz.call70 [(6,mD),(16,mD),(7,mD),(20,dL)]
def agT:bh:=⟨16,[.v jS],[n9,aO],LY⟩
theorem aud:bg E agT:=
 .q (aF avH (aF ac5 (aF IM bn))) (.k [0] (.n (.n (.n (.n (.t .none (.n (.o (.k [1,6] (.p ⟨[(2,.s (.ref 2 [])),(5,.s (.ref 5 [])),(7,.v aO)],[(2,(.optr n9)),(5,fI)]⟩ (.x 0 ⟨[(2,.s (.ref 2 [])),(5,.s (.ref 5 []))],[(2,(.optr n9)),(5,fI)]⟩) (.n (.t (.x [7] ⟨[(2,.s (.ref 2 [])),(5,.s (.ref 5 []))],[(2,(.optr n9)),(5,fI)]⟩) .l .l)))))) .l)))))) Tryz.func16 Tryz.call16 [(1,np),(2,n9),(6,(.bM .cL n8)),(5,fI)] [(6,15),(999999,45)]
def ajd:bh:=⟨71,[.v aO],[hV],GF⟩
theorem ac6:bg E ajd:=
 .q bn (.k [0] (.n (.n (.t .none (.n (.o (.p ⟨[(3,.s (.ref 3 [])),(4,.v aO)],[(3,hV)]⟩ (.x 0 ⟨[(3,.s (.ref 3 []))],[(3,hV)]⟩) .l))) .l)))) Tryz.func71 Tryz.call71 [(3,hV),(12,ix),(13,hV)]
def aje:bh:=⟨72,[.v (.bM .eN (.bM .eN .bool))],[kO],GB⟩
theorem ac7:bg E aje:=
 .q bn (.k [0] (.n (.n (.t .none (.n (.o (.p ⟨[(2,.s (.ref 2 [])),(3,.s (.ref 3 [])),(4,.v aO)],[(2,(.optr kO)),(3,(.optr kO))]⟩ (.x 0 ⟨[(2,.s (.ref 2 [])),(3,.s (.ref 3 []))],[(2,(.optr kO)),(3,(.optr kO))]⟩) (.n (.t .none (.o (.n (.t .none (.n (.o (.k [4] (.p ⟨[(2,.s (.ref 2 [])),(3,.s (.ref 3 [])),(5,.s (.ref 5 [])),(6,.v aO)],[(2,(.optr kO)),(3,(.optr kO)),(5,dL)]⟩ (.x 2 ⟨[(2,.s (.ref 2 [])),(3,.s (.ref 3 [])),(5,.s (.ref 5 []))],[(2,(.optr kO)),(3,(.optr kO)),(5,dL)]⟩) (.n (.t (.x [6] ⟨[(2,.s (.ref 2 [])),(3,.s (.ref 3 [])),(5,.s (.ref 5 []))],[(2,(.optr kO)),(3,(.optr kO)),(5,dL)]⟩) (.o (.t (.x [] ⟨[(2,.s (.ref 2 [])),(3,.s (.ref 3 [])),(5,.s (.ref 5 [])),(39,.v .bool)],[(2,(.optr kO)),(3,(.optr kO)),(5,dL)]⟩) .l .l)) .l)))))) (.z [5] .l)))) .l))))) .l)))) Tryz.func72 Tryz.call72 [(2,kO),(3,kO),(5,dL)]
def ag3:bh:=⟨17,[.v jS],[g4,aO],L2⟩
theorem aug:bg E ag3:=
 .q (aF ac7 (aF ac6 (aF ac5 (aF IM bn)))) (.k [0] (.n (.n (.n (.n (.n (.t .none (.n (.o (.k [6] (.p ⟨[(2,.s (.ref 2 [])),(5,.s (.ref 5 [])),(7,.v aO)],[(2,(.optr g4)),(5,hV)]⟩ (.x 0 ⟨[(2,.s (.ref 2 [])),(5,.s (.ref 5 []))],[(2,(.optr g4)),(5,hV)]⟩) (.n (.t .none (.o (.d [(0,[500005],[]),(1,[],[]),(2,[],[]),(3,[],[]),(4,[],[]),(5,[],[]),(6,[5,1000005],[]),(7,[5],[]),(8,[],[]),(9,[],[]),(10,[],[]),(11,[],[]),(12,[],[]),(13,[5],[]),(14,[5],[5])])) .l)))))) .l))))))) Tryz.func17 Tryz.call17 [(1,np),(2,g4),(6,(.bM .cL n8))] [(6,24),(999999,46)]
def agt:bh:=⟨136,[.v gd],[.bool],LC⟩
theorem at4:bg E agt:=
 .q bn (.k [0] (.n (.t .none (.n (.o (.p ⟨[(3,.v aO)],[]⟩ (.cR 0 ⟨[],[]⟩) .l))) .l))) Tryz.func136 Tryz.call136
def agu:bh:=⟨137,[.v gd,.v aO],[.bool],Gj⟩
theorem acu:bg E agu:=
 .q bn (.k [0,1] (.n (.t .none (.n (.o (.p ⟨[(5,.v aO)],[]⟩ (.cR 0 ⟨[],[]⟩) .l))) .l))) Tryz.func137 Tryz.call137
def ajf:bh:=⟨73,[.v nm],[aO],Dv⟩
theorem Uk:bg E ajf:=
 .q (aF acu (aF at4 bn)) (.k [0] (.n (.n (.n (.t .none (.n (.o (.k [1,3] (.p ⟨[(4,.v aO)],[]⟩ (.cR 0 ⟨[],[]⟩) (.n (.t .none (.o (.n (.n (.o (.k [4] (.p ⟨[(5,.v aO)],[]⟩ (.cR 2 ⟨[],[]⟩) (.n (.t (.cR [5] ⟨[],[]⟩) .l .l)))))))) .l)))))) .l))))) Tryz.func73 Tryz.call73 [(1,mE)]
def ajg:bh:=⟨74,[.v gd,.v aO],[.bool],LF⟩
theorem avI:bg E ajg:=
 .q bn (.k [0,1] (.n (.n (.n (.t .none (.n (.o (.p ⟨[(5,.s (.ref 5 [])),(6,.v aO)],[(5,ix)]⟩ (.cR 0 ⟨[],[]⟩) (.n (.t (.cR [6] ⟨[(5,.s (.ref 5 []))],[(5,ix)]⟩) (.o (.t (.cR [] ⟨[(5,.s (.ref 5 []))],[(5,ix)]⟩) .l .l)) .l))))) .l))))) Tryz.func74 Tryz.call74 [(12,ix)]
def agv:bh:=⟨138,[.v gd,.v aO],[.bool],L0⟩
theorem at5:bg E agv:=
 .q bn (.k [0,1] (.n (.t .none (.n (.o (.p ⟨[(5,.v aO)],[]⟩ (.cR 0 ⟨[],[]⟩) (.n (.t (.cR [5] ⟨[],[]⟩) .l .l))))) .l))) Tryz.func138 Tryz.call138
def agw:bh:=⟨139,[.v gd],[.bool],L1⟩
theorem at6:bg E agw:=
 .q (aF acu bn) (.k [0] (.n (.t .none (.n (.o (.p ⟨[(3,.v aO)],[]⟩ (.cR 0 ⟨[],[]⟩) .l))) .l))) Tryz.func139 Tryz.call139
def agy:bh:=⟨140,[.v nm],[hV],GD⟩
theorem acv:bg E agy:=
 .q bn (.k [0] (.n (.n (.n (.t .none (.n (.o (.k [1,3] (.p ⟨[(4,.s (.ref 4 [])),(5,.v aO)],[(4,hV)]⟩ (.x 0 ⟨[(4,.s (.ref 4 []))],[(4,hV)]⟩) (.n (.t .none (.o (.n (.t .none (.n (.o (.k [5] (.p ⟨[(4,.s (.ref 4 [])),(6,.s (.ref 6 [])),(7,.v aO)],[(4,hV),(6,ix)]⟩ (.x 2 ⟨[(4,.s (.ref 4 [])),(6,.s (.ref 6 []))],[(4,hV),(6,ix)]⟩) .l)))) .l))) .l)))))) .l))))) Tryz.func140 Tryz.call140 [(1,mE),(4,hV),(17,ix),(40,hV)]
def ajh:bh:=⟨75,[.v nm,.v gd],[g4,aO],L3⟩
theorem avJ:bg E ajh:=
 .q (aF Uk (aF ac7 (aF ac6 (aF acv (aF at6 (aF at5 bn)))))) (.k [0,1] (.n (.n (.n (.n (.n (.n (.t .none (.n (.o (.k [7] (.p ⟨[(4,.s (.ref 4 [])),(8,.s (.ref 8 [])),(9,.v aO)],[(4,(.optr g4)),(8,hV)]⟩ (.x 0 ⟨[(4,.s (.ref 4 [])),(8,.s (.ref 8 []))],[(4,(.optr g4)),(8,hV)]⟩) (.n (.t .none (.o (.n (.o (.k [9] (.p ⟨[(4,.s (.ref 4 [])),(8,.s (.ref 8 [])),(10,.v aO)],[(4,(.optr g4)),(8,hV)]⟩ (.x 2 ⟨[(4,.s (.ref 4 [])),(8,.s (.ref 8 []))],[(4,(.optr g4)),(8,hV)]⟩) (.n (.t .none (.o (.d [(0,[500008],[]),(1,[],[]),(2,[8,1000008],[]),(3,[8],[]),(4,[],[]),(5,[],[]),(6,[],[]),(7,[],[]),(8,[],[]),(9,[],[]),(10,[],[]),(11,[],[]),(12,[],[]),(13,[],[]),(14,[],[]),(15,[],[]),(16,[],[]),(17,[],[]),(18,[8],[]),(19,[8],[8])])) .l))))))) .l)))))) .l)))))))) Tryz.func75 Tryz.call75 [(2,mE),(4,g4),(7,(.bM .cL (.bM .cL .bool)))] [(7,28),(999999,64)]
def ag9:bh:=⟨18,[.v nm,.v gd],[g4,aO],GC⟩
theorem aui:bg E ag9:=
 .q (aF avJ (aF avI (aF Uk bn))) (.k [0,1] .l) Tryz.func18 Tryz.call18 [(2,mE),(4,g4)]
def ai2:bh:=⟨60,[.v jS,.v gd],[g4],L9⟩
theorem avA:bg E ai2:=
 .q (aF aui (aF aug (aF aud bn))) (.k [0,1] .l) Tryz.func60 Tryz.call60 [(2,np),(4,g4),(5,n9),(7,g4),(9,g4)]
def aji:bh:=⟨76,[.v nm],[xR],L4⟩
theorem avK:bg E aji:=
 .q (aF acv bn) (.k [0] (.n (.t .none (.d [(0,[],[]),(1,[1000004],[4]),(2,[],[]),(3,[],[]),(4,[],[]),(5,[1000008],[8]),(6,[1000004,1000008,1000009],[4,8,9,500004,500008]),(7,[1000009,1000010],[9,10,500009]),(8,[1000002,1000010],[2,10,500002,500010])]) .l))) Tryz.func76 Tryz.call76 [(1,mE),(8,ix)]
def ajj:bh:=⟨77,[.v (.ptr .eN (.st (.pr (.bM .eN (.bM .eN .bool)) (.pr (.bM .eN .bool) .nil)))),.v aO],[dL],GH⟩
theorem ac8:bg E ajj:=
 .q bn (.k [0,1] (.n (.n (.t .none (.n (.o (.p ⟨[(5,.s (.ref 5 [])),(6,.v aO)],[(5,dL)]⟩ (.x 0 ⟨[(5,.s (.ref 5 []))],[(5,dL)]⟩) (.n (.t (.x [6] ⟨[(5,.s (.ref 5 []))],[(5,dL)]⟩) (.o (.t (.x [] ⟨[(5,.s (.ref 5 [])),(35,.v .bool)],[(5,dL)]⟩) .l .l)) .l))))) .l)))) Tryz.func77 Tryz.call77 [(5,dL)]
def ajk:bh:=⟨78,[.m xR,.v aO],[],GG⟩
theorem avL:bg E ajk:=
 .q (aF ac8 bn) (.k [1] (.n (.t .none (.n (.o (.k [4] (.p ⟨[(0,.s (.ref 0 [])),(5,.v aO)],[(0,xR)]⟩ (.x 0 ⟨[(0,.s (.ref 0 []))],[(0,xR)]⟩) (.n (.t .none (.o (.n (.o (.k [5] (.p ⟨[(0,.s (.ref 0 [])),(6,.v aO)],[(0,xR)]⟩ (.x 2 ⟨[(0,.s (.ref 0 []))],[(0,xR)]⟩) (.n (.t (.x [6] ⟨[(0,.s (.ref 0 []))],[(0,xR)]⟩) (.o (.n (.t .none (.d [(0,[500000],[]),(1,[1000000],[]),(2,[1000000,2000000],[]),(3,[2000000],[]),(4,[],[]),(5,[],[]),(6,[],[]),(7,[],[]),(8,[2000000,3000000],[]),(9,[3000000],[]),(10,[],[]),(11,[],[]),(12,[],[]),(13,[],[]),(14,[3000000],[]),(15,[3000000],[0])]) .l))) .l))))))) .l)))))) .l))) Tryz.func78 Tryz.call78 [(4,hW)] [(4,9)]
def ahb:bh:=⟨19,[.v nm],[(.osl hW),aO],L5⟩
theorem auk:bg E ahb:=
 .q (aF avL (aF ac8 (aF avK (aF Uk bn)))) (.k [0] (.n (.n (.n (.n (.t .none (.n (.o (.k [1] (.p ⟨[(5,.s (.ref 5 [])),(6,.s (.ref 6 [])),(7,.v aO)],[(5,xR),(6,(.osl hW))]⟩ (.x 0 ⟨[(6,.s (.ref 6 []))],[(6,(.osl hW))]⟩) .l)))) .l)))))) Tryz.func19 Tryz.call19 [(1,mE),(6,(.osl hW)),(2,(.osl hW))] [(29,28)]
def ai3:bh:=⟨61,[.v jS,.v gd,.v aO,.v aO],[cj],L8⟩
theorem avB:bg E ai3:=
 .q (aF acS (aF Og bn)) (.k [0,1,2,3] .l) Tryz.func61 Tryz.call61 [(4,np),(8,cj)]
def agN:bh:=⟨154,[.v dM,.v dM],[cu],LL⟩
theorem aua:bg E agN:=
 .q bn (.k [0,1] (.n (.n (.t .none (.n (.o (.p ⟨[(5,.s (.ref 5 [])),(6,.v aO)],[(5,cu)]⟩ (.x 0 ⟨[(5,.s (.ref 5 []))],[(5,cu)]⟩) (.n (.t .none (.o (.n (.t .none (.n (.o (.k [6] (.p ⟨[(5,.s (.ref 5 [])),(7,.v cf),(8,.v aO)],[(5,cu)]⟩ (.x 2 ⟨[(5,.s (.ref 5 [])),(7,.v cf)],[(5,cu)]⟩) (.n (.t .none (.o (.t .none (.d [(0,[],[]),(1,[],[]),(2,[],[]),(3,[],[]),(4,[],[]),(5,[],[]),(6,[],[]),(7,[],[]),(8,[],[]),(9,[],[]),(10,[],[]),(11,[],[]),(12,[],[]),(13,[500005],[]),(14,[],[]),(15,[],[]),(16,[],[]),(17,[5,1000005],[]),(18,[5],[]),(19,[],[]),(20,[],[]),(21,[],[])]) .l)) .l)))))) .l))) .l))))) .l)))) Tryz.func154 Tryz.call154 [(14,cu)]
def aju:bh:=⟨92,[.v bO,.v bO],[bO],Gp⟩
theorem ade:bg E aju:=
 .q (aF BU (aF aua (aF y8 bn))) (.k [0,1] (.n (.t .none (.d [(0,[],[]),(1,[],[]),(2,[],[]),(3,[],[]),(4,[],[]),(5,[],[]),(6,[],[]),(7,[1000012],[12]),(8,[],[]),(9,[],[]),(10,[1000015],[15]),(11,[1000012,1000015,1000016],[12,15,16,500012,500015]),(12,[1000016],[16,500016]),(13,[1000004],[4])]) .l))) Tryz.func92 Tryz.call92 [(2,fR),(3,fR),(4,bO)] [(16,12),(16,15),(17,16)]
def aip:bh:=⟨27,[.v cj,.v cj],[cj],LO⟩
theorem au2:bg E aip:=
 .q (aF ade (aF y9 (aF BV (aF IN bn)))) (.k [0,1] (.n (.t .none (.d [(0,[1000002],[]),(1,[],[]),(2,[1000003],[]),(3,[],[]),(4,[1000002],[2]),(5,[1000003],[3])]) (.t (.cR [] ⟨[(2,.s (.ref 2 [])),(3,.s (.ref 3 [])),(4,.s (.ref 4 []))],[(2,hm),(3,hm),(4,hm)]⟩) (.t (.x [] ⟨[(2,.s (.ref 2 [])),(3,.s (.ref 3 [])),(4,.s (.ref 4 [])),(14,.v .bool)],[(2,hm),(3,hm),(4,hm)]⟩) .l .l) (.t .none (.d [(0,[1000002,4000002],[]),(1,[4000002],[]),(2,[1000003,4000003],[]),(3,[4000003],[]),(4,[],[]),(5,[1000002,6000002],[]),(6,[6000002],[]),(7,[1000003,6000003],[]),(8,[6000003],[]),(9,[],[]),(10,[],[]),(11,[1000004],[4])]) .l))))) Tryz.func27 Tryz.call27 [(4,cj)]
def ai4:bh:=⟨62,[.v cf,.v cf],[cj],GI⟩
theorem avC:bg E ai4:=
 .q (aF au2 (aF Og bn)) (.k [0,1] .l) Tryz.func62 Tryz.call62 [(4,cj)]
def aif:bh:=⟨26,[.v cj],[cj],Gv⟩
theorem auY:bg E aif:=
 .q (aF adc (aF y9 (aF BV bn))) (.k [0] (.n (.n (.n (.t .none (.d [(0,[1000001,4000001],[]),(1,[4000001],[]),(2,[],[]),(3,[1000001,6000001],[]),(4,[6000001],[]),(5,[],[]),(6,[1000002],[2])]) .l))))) Tryz.func26 Tryz.call26 [(2,cj)]
def aiJ:bh:=⟨295,[.m cu,.v dM,.v aO,.v cf],[.bool],Gt⟩
theorem avj:bg E aiJ:=
 .q bn (.k [1,2,3] (.n (.n (.n (.n (.t .none (.n (.o (.k [9] (.p ⟨[(0,.s (.ref 0 [])),(10,.s (.ref 10 [])),(11,.v cf),(12,.v cf),(13,.v aO)],[(0,cu),(10,cu)]⟩ (.x 0 ⟨[(0,.s (.ref 0 [])),(10,.s (.ref 10 [])),(11,.v cf)],[(0,cu),(10,cu)]⟩) (.n (.t (.x [13] ⟨[(0,.s (.ref 0 [])),(10,.s (.ref 10 [])),(11,.v cf),(12,.v cf)],[(0,cu),(10,cu)]⟩) (.o (.t (.x [11] ⟨[(0,.s (.ref 0 [])),(10,.s (.ref 10 [])),(12,.v cf)],[(0,cu),(10,cu)]⟩) .l .l)) .l)))))) (.n (.t .none (.n (.o (.k [9] (.p ⟨[(0,.s (.ref 0 [])),(10,.s (.ref 10 [])),(15,.v aO)],[(0,cu),(10,cu)]⟩ (.x 2 ⟨[(0,.s (.ref 0 []))],[(0,cu)]⟩) .l)))) .l)))))))) Tryz.func295 Tryz.call295 [(20,cu)]
def aiy:bh:=⟨281,[.v dM,.v dM],[cu,dM],LK⟩
theorem ava:bg E aiy:=
 .q (aF avj (aF ac0 (aF Uc (aF acz (aF acy (aF BU bn)))))) (.k [0,1] (.n (.n (.n (.n (.t .none (.d [(0,[],[]),(1,[],[]),(2,[1000031],[31]),(3,[],[]),(4,[],[]),(5,[1000034],[34]),(6,[],[]),(7,[34,1000034],[]),(8,[1000008,1000031],[8,31,500008,500031]),(9,[34,1000009],[9,34,500009,500034])]) (.t (.x [6,7] ⟨[(8,.s (.ref 8 [])),(9,.v dM)],[(8,cu)]⟩) (.t .none (.z [9] .l) .l) (.n (.t .none (.n (.o (.k [6,7,9] (.p ⟨[(8,.s (.ref 8 [])),(10,.s (.ref 10 [])),(11,.v aO)],[(8,cu),(10,cu)]⟩ (.x 0 ⟨[(8,.s (.ref 8 [])),(10,.s (.ref 10 []))],[(8,cu),(10,cu)]⟩) (.n (.t .none (.o (.t .none (.d [(0,[500008],[]),(1,[],[]),(2,[],[]),(3,[],[]),(4,[8,1000008],[]),(5,[8],[]),(6,[],[]),(7,[],[]),(8,[500008],[]),(9,[],[]),(10,[],[]),(11,[],[]),(12,[],[]),(13,[8,1000008],[]),(14,[8],[]),(15,[],[]),(16,[],[]),(17,[],[])]) (.n (.t .none (.o (.k [11] (.p ⟨[(8,.s (.ref 8 [])),(10,.s (.ref 10 [])),(13,.v cf)],[(8,cu),(10,cu)]⟩ (.x 2 ⟨[(8,.s (.ref 8 [])),(10,.s (.ref 10 [])),(13,.v cf)],[(8,cu),(10,cu)]⟩) .l))) .l)))) .l)))))) (.t .none (.z [8] .l) (.t .none (.z [10] .l) .l))))))))))) Tryz.func281 Tryz.call281 [(50,cu),(14,dM),(5,dM),(4,cu)] [(5,108),(14,103000),(102,100)]
def aig:bh:=⟨260,[.v bO,.v bO],[bO,bO],Gm⟩
theorem acU:bg E aig:=
 .q (aF IQ (aF IP (aF uR (aF ava (aF II (aF Ud (aF y8 (aF IG bn)))))))) (.k [0,1] (.n (.t .none (.d [(0,[1000002],[]),(1,[],[]),(2,[1000003],[]),(3,[],[]),(4,[1000002],[2]),(5,[1000003],[3])]) (.n (.t .none (.d [(0,[1000002,2000002],[]),(1,[2000002],[]),(2,[1000003,2000003],[]),(3,[2000003],[]),(4,[],[]),(5,[],[]),(6,[],[]),(7,[1000002,2000002],[]),(8,[2000002],[]),(9,[],[]),(10,[],[]),(11,[1000008],[8]),(12,[1000009],[9]),(13,[1000008],[8]),(14,[1000009],[9])]) (.t (.x [] ⟨[(4,.s (.ref 4 [])),(5,.s (.ref 5 [])),(8,.s (.ref 8 [])),(9,.s (.ref 9 []))],[(4,dV),(5,dV),(8,dV),(9,dV)]⟩) (.n (.t .none (.t .none (.d [(0,[1000009],[]),(1,[1000003],[]),(2,[],[]),(3,[],[]),(4,[1000009],[9])]) (.n (.t .none (.d [(0,[1000008],[]),(1,[],[]),(2,[],[]),(3,[1000008],[8])]) (.d [(0,[1000008],[]),(1,[],[]),(2,[],[]),(3,[1000008],[8])])))) .l)) (.t .none (.d [(0,[1000008],[]),(1,[1000009],[]),(2,[1000004],[4]),(3,[1000005],[5])]) .l))))))) Tryz.func260 Tryz.call260 [(4,bO),(5,bO),(6,dM),(8,bO),(9,bO)] [(6,20000)]
def agX:bh:=⟨163,[.v bO,.v bO],[aO],Gl⟩
theorem acA:bg E agX:=
 .q (aF uR (aF Ud bn)) (.k [0,1] .l) Tryz.func163 Tryz.call163 [(2,fR),(3,fR)]
def aie:bh:=⟨259,[.v bO],[bO],LI⟩
theorem auX:bg E aie:=
 .q (aF EI (aF IP (aF uR (aF acU (aF acA (aF II (aF IH bn))))))) (.k [0] (.n (.n (.t .none (.d [(0,[],[]),(1,[],[]),(2,[],[]),(3,[],[]),(4,[],[]),(5,[],[]),(6,[1000003],[3]),(7,[1000003],[3])]) (.o (.k [1] (.p ⟨[(2,.s (.ref 2 [])),(3,.s (.ref 3 []))],[(2,dV),(3,dV)]⟩ .r .l))))))) Tryz.func259 Tryz.call259 [(1,fR),(2,bO),(3,bO),(4,bO),(5,bO),(6,bO)]
def ahu:bh:=⟨209,[.v bO,.v aO,.v aO],[bO,aO,.bool],LQ⟩
theorem auy:bg E ahu:=
 .q (aF EI (aF ade (aF auX (aF acA (aF IH bn))))) (.k [0,1,2] (.n (.n (.t (.x [3] ⟨[(6,.s (.ref 6 [])),(9,.v aO)],[(6,dV)]⟩) .l (.n (.n (.t .none (.d [(0,[1000006],[]),(1,[],[]),(2,[],[]),(3,[],[]),(4,[],[]),(5,[1000006],[]),(6,[1000006],[]),(7,[],[]),(8,[1000010],[]),(9,[],[]),(10,[],[]),(11,[1000006],[6]),(12,[],[]),(13,[],[])]) .l))))))) Tryz.func209 Tryz.call209 [(3,fR),(6,bO),(10,bO)]
def agq:bh:=⟨133,[.v cj,.v aO],[cf],LW⟩
theorem at1:bg E agq:=
 .q (aF uR (aF y9 (aF auy (aF T7 bn)))) (.k [0,1] (.n (.n (.t (.cR [] ⟨[(2,.s (.ref 2 []))],[(2,hm)]⟩) .l .l)))) Tryz.func133 Tryz.call133 [(5,bO)]
def ai5:bh:=⟨63,[.v cj],[cf],GJ⟩
theorem avD:bg E ai5:=
 .q (aF at1 bn) (.k [0] .l) Tryz.func63 Tryz.call63 [(1,t5)]
def ai6:bh:=⟨64,[.v cj],[aO],LR⟩
theorem avE:bg E ai6:=
 .q (aF uR (aF y9 bn)) (.k [0] .l) Tryz.func64 Tryz.call64
def ai7:bh:=⟨65,[.v cf],[.bool],L6⟩
theorem avF:bg E ai7:=
 .q bn (.k [0] .l) Tryz.func65 Tryz.call65
def ahw:bh:=⟨210,[.v bO,.v bO,.v aO],[bO,aO,.bool],LP⟩
theorem auz:bg E ahw:=
 .q (aF EI (aF uR (aF acU (aF IH bn)))) (.k [0,1,2] (.n (.n (.t .none (.d [(0,[],[]),(1,[],[]),(2,[],[]),(3,[],[]),(4,[],[]),(5,[],[]),(6,[],[]),(7,[],[]),(8,[1000010],[10]),(9,[1000006],[6]),(10,[1000010],[10])]) (.t .none (.d [(0,[1000006],[]),(1,[],[]),(2,[],[]),(3,[1000010],[]),(4,[],[]),(5,[],[]),(6,[1000006],[6]),(7,[],[]),(8,[],[])]) .l))))) Tryz.func210 Tryz.call210 [(3,fR),(4,fR),(6,bO),(10,bO)]
def agr:bh:=⟨134,[.v cj,.v cj,.v aO],[cf],LV⟩
theorem at2:bg E agr:=
 .q (aF IQ (aF uR (aF y9 (aF auz (aF T7 bn))))) (.k [0,1,2] (.n (.t .none (.d [(0,[1000003],[]),(1,[],[]),(2,[1000004],[]),(3,[],[]),(4,[1000003],[3]),(5,[1000004],[4])]) (.t (.cR [] ⟨[(3,.s (.ref 3 [])),(4,.s (.ref 4 []))],[(3,hm),(4,hm)]⟩) .l (.n (.t .none (.d [(0,[1000003,4000003],[]),(1,[4000003],[]),(2,[],[]),(3,[1000004,4000004],[]),(4,[4000004],[]),(5,[],[]),(6,[],[]),(7,[],[]),(8,[],[]),(9,[],[]),(10,[],[]),(11,[1000007],[7]),(12,[1000007],[7]),(13,[],[]),(14,[],[])]) .l)))))) Tryz.func134 Tryz.call134 [(7,bO)]
def ai8:bh:=⟨66,[.v cj,.v cj],[cf],L7⟩
theorem avG:bg E ai8:=
 .q (aF at2 bn) (.k [0,1] .l) Tryz.func66 Tryz.call66 [(2,t5),(3,t5)]
def agx:bh:=⟨14,[.v jS,.v gd],[rm,aO,aO],ya⟩
theorem at7:bg E agx:=
 .q (aF Oh (aF avG (aF avF (aF avE (aF avD (aF avC (aF avB (aF avA (aF avz (aF acZ (aF auY (aF Og (aF auk bn))))))))))))) (.k [0,1] (.n (.n (.n (.n (.n (.t .none (.n (.o (.k [2,8,9] (.p ⟨[(4,.s (.ref 4 [])),(11,.s (.ref 11 [])),(12,.v aO)],[(4,ka),(11,qn)]⟩ (.x 0 ⟨[(4,.s (.ref 4 [])),(11,.s (.ref 11 []))],[(4,ka),(11,qn)]⟩) .l)))) (.n (.t .none (.n (.o (.k [2,8,9] (.p ⟨[(4,.s (.ref 4 [])),(11,.s (.ref 11 [])),(13,.s (.ref 13 [])),(14,.v aO)],[(4,ka),(11,qn),(13,ka)]⟩ (.cR 2 ⟨[(4,.s (.ref 4 [])),(13,.s (.ref 13 []))],[(4,ka),(13,ka)]⟩) (.n (.t .none (.o (.t .none (.n (.o (.k [14] (.p ⟨[(4,.s (.ref 4 [])),(11,.s (.ref 11 [])),(13,.s (.ref 13 [])),(15,.v aO)],[(4,ka),(11,qn),(13,ka)]⟩ (.cR 4 ⟨[(4,.s (.ref 4 [])),(11,.s (.ref 11 [])),(13,.s (.ref 13 []))],[(4,ka),(11,qn),(13,ka)]⟩) (.n (.t (.cR [15] ⟨[(4,.s (.ref 4 [])),(11,.s (.ref 11 [])),(13,.s (.ref 13 []))],[(4,ka),(11,qn),(13,ka)]⟩) (.o (.n (.n (.t .none (.n (.o (.k [16] (.p ⟨[(4,.s (.ref 4 [])),(11,.s (.ref 11 [])),(13,.s (.ref 13 [])),(17,.s (.ref 17 [])),(18,.v aO)],[(4,ka),(11,qn),(13,ka),(17,rl)]⟩ (.x 6 ⟨[(4,.s (.ref 4 [])),(11,.s (.ref 11 [])),(13,.s (.ref 13 [])),(17,.s (.ref 17 []))],[(4,ka),(11,qn),(13,ka),(17,rl)]⟩) (.n (.t .none (.o (.d [(0,[500017],[]),(1,[500011],[]),(2,[],[]),(3,[11,1000011],[]),(4,[11],[]),(5,[],[]),(6,[11],[]),(7,[11],[]),(8,[500011],[]),(9,[],[]),(10,[11,1000011],[]),(11,[11],[]),(12,[],[]),(13,[11],[]),(14,[11],[]),(15,[],[]),(16,[],[]),(17,[1000103],[103]),(18,[1000017,1000103,1000104],[17,104,500017,500104]),(19,[1000017,1000104],[17,104,500017,500104])])) .l)))))) (.n (.n (.t (.cR [16] ⟨[(4,.s (.ref 4 [])),(11,.s (.ref 11 [])),(13,.s (.ref 13 [])),(20,.v cf)],[(4,ka),(11,qn),(13,ka)]⟩) (.n (.t .none (.n (.t (.x [20] ⟨[(4,.s (.ref 4 [])),(11,.s (.ref 11 [])),(13,.s (.ref 13 [])),(118,.v .bool)],[(4,ka),(11,qn),(13,ka)]⟩) .l .l)) (.d [(0,[1000019],[]),(1,[500011],[]),(2,[],[]),(3,[11,1000011],[]),(4,[11],[]),(5,[],[]),(6,[11],[]),(7,[11],[]),(8,[],[]),(9,[],[]),(10,[],[])]))) .l))))))) .l)))))) .l)) .l)))))) .l))))))))) Tryz.func14 Tryz.call14 [(2,np),(4,rm),(26,rm),(9,(.bM .cL hW)),(38,qn),(47,(.osl cf)),(53,rm),(13,rm),(19,cj),(119,rm),(134,rm)] [(9,35000)]
def agI:bh:=⟨15,[.v PF,.v PF],[.bool],Gh⟩
theorem at9:bg E agI:=
 .q (aF ac4 (aF acH bn)) (.k [0,1] .l) Tryz.func15 Tryz.call15 [(2,WE),(3,WE)]
def CL:bh:=⟨3,[.v pM,.v aO,.v aO,.v .bool,.v gd],[.bool],QC⟩
theorem avm:bg E CL:=
 .q (aF at9 (aF at7 (aF act (aF atO (aF atN bn))))) (.k [0,1,2,3,4] .l) Tryz.func3 Tryz.call3 [(11,n9),(13,vA),(16,vA),(19,vA),(22,vA)] [(999999,48000),(999999,62000)]
end
def a9 (n:Nat):Int:=4294967296^n
def af:List Int->Int
 |[]=>0
 |x::l=>x+4294967296*af l
def bi (l:List Int):Prop:=∀x∈l,0<=x/\x<4294967296
theorem bi.nil:bi []:=fun _ h=>by cases h
theorem bi.cons {x:Int} {l:List Int}:bi (x::l)↔(0<=x/\x<4294967296)/\bi l:=by
 constructor
 ·exact fun h=>⟨h x (nk ..),fun y aB=>h y (gC _ aB)⟩
 ·rintro⟨J,R⟩ y aB;rcases d4.1 aB with rfl|aB
  ·exact J
  ·exact R y aB
theorem bi.append {a b:List Int}:bi (a++b)↔bi a/\bi b:=by
 constructor
 ·exact fun h=>⟨fun y aB=>h y (sl _ aB),fun y aB=>h y (pI _ aB)⟩
 ·rintro⟨J,R⟩ y aB;rcases fg.1 aB with aB|aB
  ·exact J y aB
  ·exact R y aB
theorem bi.snoc {a:List Int} {x:Int} (h:bi a) (J:0<=x) (R:x<4294967296):bi (a++[x]):=
 bi.append.2 ⟨h,bi.cons.2 ⟨⟨J,R⟩,bi.nil⟩⟩
theorem bi.take {l:List Int} (h:bi l) (n:Nat):bi (l.take n):=fun x ab=>h x (List.mem_of_mem_take ab)
theorem bi.drop {l:List Int} (h:bi l) (n:Nat):bi (l.drop n):=fun x ab=>h x (List.mem_of_mem_drop ab)
theorem bi.n3 (n:Nat):bi (List.replicate n (0:Int)):=fun x ab=>by obtain⟨_,rfl⟩:=List.mem_replicate.1 ab;exact⟨xF _,by decide⟩
theorem bi.set {l:List Int} (h:bi l) {n:Nat} {x:Int} (J:0<=x) (R:x<4294967296):bi (l.set n x):=fun y aB=>by
 rcases List.mem_or_eq_of_mem_set aB with aB|rfl
 ·exact h y aB
 ·exact⟨J,R⟩
theorem bi.get {l:List Int} (h:bi l) {n:Nat} (ag:n<l.length):0<=l[n]/\l[n]<4294967296:=h _ (dy ag)
theorem eU (n:Nat):0<a9 n:=vl (by decide)
theorem ia (n:Nat):a9 (n+1)=4294967296*a9 n:=by unfold a9;rw[Int.pow_succ,jl]
theorem zM (m n:Nat):a9 (m+n)=a9 m*a9 n:=pG ..
theorem Fo:a9 0=1:=rfl
theorem n0 (a b:List Int):af (a++b)=af a+a9 a.length*af b:=by
 induction a with
 |nil=>simp[af,Fo]
 |cons x a aZ=>
  simp only[mA,af,kJ,ia,aZ];grind
theorem vd (a:List Int) (x:Int):af (a++[x])=af a+a9 a.length*x:=by rw[n0];simp[af]
theorem ej {l:List Int} (h:bi l):0<=af l:=by
 induction l with
 |nil=>exact xF _
 |cons x l aZ=>
  have h:=bi.cons.1 h;have:=aZ h.2;simp only[af];omega
theorem gU {l:List Int} (h:bi l):af l<a9 l.length:=by
 induction l with
 |nil=>decide
 |cons x l aZ=>
  have h:=bi.cons.1 h;have:=aZ h.2;simp only[af,kJ,ia];omega
theorem h6 {l:List Int} {i:Nat} (h:i<l.length):af (l.take (i+1))=af (l.take i)+a9 i*l[i]:=by rw[lY,cr h];show af (l.take i++[l[i]])=_;rw[vd,eW,hU (by omega)]
theorem sc (l:List Int) (i:Nat) (h:i<=l.length):af l=af (l.take i)+a9 i*af (l.drop i):=by
 conv=>lhs;rw[<-oQ i l]
 rw[n0,eW,hU h]
theorem n1 {l:List Int} {i:Nat} (h:i<l.length):af (l.drop i)=l[i]+4294967296*af (l.drop (i+1)):=by rw[PA h];rfl
theorem tC (n:Nat):af (List.replicate n (0:Int))=0:=by
 induction n with
 |zero=>rfl
 |succ n aZ=>simp only[List.replicate_succ,af,aZ];rfl
theorem pC {l:List Int} {i:Nat} (h:i<l.length) (x:Int):af (l.set i x)=af l+a9 i*(x-l[i]):=by
 induction l generalizing i with
 |nil=>simp at h
 |cons y l aZ=>
  cases i with
  |zero=>simp only[List.set_cons_zero,af,Fo,List.getElem_cons_zero];grind
  |succ i=>
   simp only[List.set_cons_succ,af,List.getElem_cons_succ,ia];rw[aZ (by simpa using h)];grind
def AV:Nat->Nat->List Int
 |0,_=>[]
 |f+1,n=>if n=0 then[] else((n %4294967296:Nat):Int)::AV f (n/4294967296)
def c6 (n:Nat):List Int:=AV (Nat.log2 n+1) n
def ec (l:List Int):Prop:=∀x,l.getLast?=some x->x≠0
theorem amE:∀{f n:Nat},n<2^f->bi (AV f n)/\af (AV f n)=n/\ec (AV f n):=by
 intro f
 induction f with
 |zero=>
  intro n h;obtain rfl:n=0:=(by simpa using h);exact⟨bi.nil,rfl,fun x h=>by cases h⟩
 |succ f aZ=>
  intro n h;unfold AV;split
  ·rename_i e;subst e;exact⟨bi.nil,rfl,fun x h=>by cases h⟩
  rename_i ag;obtain⟨J,R,ac⟩:=aZ (n:=n/4294967296) (by rw[mC] at h;omega);refine⟨bi.cons.2 ⟨⟨by omega,by omega⟩,J⟩,?_,?_⟩
  ·simp only[af,R];omega
  ·intro x ab;cases aj:AV f (n/4294967296) with
   |nil=>
    rw[aj] at ab R;simp only[af] at R;simp only[List.getLast?_singleton,cS] at ab;omega
   |cons y l=>
    rw[aj,List.getLast?_cons_cons] at ab;rw[aj] at ac;exact ac x ab
theorem Q1 (n:Nat):bi (c6 n)/\af (c6 n)=n/\ec (c6 n):=amE Nat.lt_log2_self
theorem lE (n:Nat):bi (c6 n):=(Q1 n).1
theorem nx (n:Nat):af (c6 n)=n:=(Q1 n).2.1
theorem ry (n:Nat):ec (c6 n):=(Q1 n).2.2
theorem ec.tail {x:Int} {l:List Int} (h:ec (x::l)):ec l:=fun y aB=>by
 cases l with
 |nil=>cases aB
 |cons z l=>exact h y (by rw[List.getLast?_cons_cons];exact aB)
theorem ec.zero {l:List Int} (ai:bi l) (ah:ec l) (h:af l=0):l=[]:=by
 induction l with
 |nil=>rfl
 |cons x l aZ=>
  obtain⟨⟨J,R⟩,ac⟩:=bi.cons.1 ai;have ag:=ej ac;simp only[af] at h;have ab:x=0:=(by omega);have:=aZ ac ah.tail (by omega);subst this;subst ab;exact absurd rfl (ah 0 rfl)
theorem ec.uniq:∀{a b:List Int},bi a->bi b->ec a->ec b->af a=af b->a=b
 |[],b,_,aa,_,tb,h=>(ec.zero aa tb (by rw[<-h];rfl)).symm
 |a,[],aC,_,ta,_,h=>ec.zero aC ta (by rw[h];rfl)
 |x::a,y::b,aC,aa,ta,tb,h=>by obtain⟨⟨J,R⟩,ac⟩:=bi.cons.1 aC;obtain⟨⟨aL,aY⟩,bG⟩:=bi.cons.1 aa;simp only[af] at h;have yI:x=y:=(by omega);have:=ec.uniq ac bG ta.tail tb.tail (by omega);rw[yI,this]
theorem amH {l:List Int} {n:Nat} (J:bi l) (R:ec l) (ac:af l=n):l=c6 n:=
 ec.uniq J (lE n) R (ry n) (by rw[ac,nx])
theorem ec.eq {l:List Int} (J:bi l) (R:ec l):l=c6 (af l).toNat:=
 amH J R (by have:=ej J;omega)
theorem ec.low {l:List Int} (ai:bi l) (ah:ec l) (h:l≠[]):a9 (l.length-1)<=af l:=by have J:=List.dropLast_concat_getLast h;have R:=ah (l.getLast h) (List.getLast?_eq_some_getLast h);have ac:=ai _ (List.getLast_mem h);rw[<-J,vd];have aL:=ej (l:=l.dropLast) (fun x ab=>ai x (List.dropLast_subset _ ab));have aY:1<=l.getLast h:=(by omega);have bG:=kI aY (eM (eU l.dropLast.length));simp only[tS,List.length_singleton,CV];omega
theorem awu {m n:Nat} (h:m<n):a9 m<a9 n:=by obtain⟨k,rfl⟩:∃k,n=m+(k+1):=⟨n-m-1,by omega⟩;rw[zM,ia];have J:=eU k;have R:=eU m;have ac:1*a9 m<(4294967296*a9 k)*a9 m:=zP (by omega) R;grind
theorem tp {m n:Nat} (h:m<=n):a9 m<=a9 n:=by
 rcases ct m n with J|J
 ·exact eM (awu J)
 ·obtain rfl:m=n:=(by omega);exact xF _
theorem vZ {n k:Nat} (h:(n:Int)<a9 k):(c6 n).length<=k:=by
 by_cases aE:c6 n=[]
 ·rw[aE];exact eX _
 have J:=ec.low (lE n) (ry n) aE;rw[nx] at J;rcases ct k (c6 n).length with R|R
 ·have:=tp (m:=k) (n:=(c6 n).length-1) (by omega);omega
 ·exact R
theorem YD (n:Nat):(n:Int)<a9 (c6 n).length:=by have:=gU (lE n);rwa[nx] at this
theorem Q2:c6 0=[]:=rfl
theorem Q0 {n:Nat}:c6 n=[]↔n=0:=by
 constructor
 ·intro h;have:=nx n;rw[h] at this;simp only[af] at this;omega
 ·rintro rfl;rfl
def hz (l:List Int):List Int:=c6 (af l).toNat
theorem ae7 {l:List Int} {n:Nat} (ai:bi l) (ag:n<=l.length) (aV:∀k,n<=k->(ae:k<l.length)->l[k]=0) (ah:ec (l.take n)):l.take n=hz l:=by have J:af l=af (l.take n):=(by have R:l.drop n=List.replicate (l.length-n) 0:=(by refine List.ext_getElem (by simp) fun k J R=>?_;rw[List.getElem_drop,List.getElem_replicate];exact aV _ (by omega) _);rw[sc l n ag,R,tC];simp);rw[hz,J];exact ec.eq (ai.take n) ah
theorem Vz (l:List Int):bi (hz l):=lE _
theorem ae6 (l:List Int):ec (hz l):=ry _
theorem VA {l:List Int} (h:bi l):af (hz l)=af l:=by have:=ej h;rw[hz,nx];omega
theorem ae5 {l:List Int} (h:bi l):(hz l).length<=l.length:=by have J:=gU h;have:=ej h;exact vZ (by omega)
theorem an6 {α:Type} {a b:List α} (ai:a.length=b.length) (h:∀k,k<a.length->a[k]?=b[k]?):a=b:=by
 apply jN;intro k;rcases ct k a.length with J|J
 ·exact h k J
 ·rw[gW J,gW (by omega)]
theorem Fu (a b:List Int) (aC:a.length<4611686018427387904):AE (a,b,())=some (a==b,()):=by
 rw[<-U.eq_iff];unfold AE;simp only[U.dk,U.dm,U.ar];refine⟨fun h=>?_,fun h=>?_⟩
 ·simp at h;have:a≠b:=fun e=>h (by rw[e]);simp[this]
 ·simp at h;have ai:a.length=b.length:=(by omega);refine U.for (i0:=0) a.length (fun i _=>∀k,k<i->a[k]?=b[k]?) rfl (by simp) (eX _) ?_ ?_
  ·intro i t _ hi cU;simp only[U.dk,U.dm,U.ar,U.kf];refine⟨fun _=>⟨hi,by omega,fun cX=>?_,fun aE=>?_⟩,fun aH=>?_⟩
   ·simp at cX;have:a≠b:=fun e=>cX (by simp[e]);simp[this]
   ·refine⟨hh (by omega),fun k ae=>?_⟩;rcases ct k i with J|J
    ·exact cU k J
    ·obtain rfl:k=i:=(by omega);simp at aE;rw[cr hi,cr (by omega),aE]
   ·simp at aH;omega
  ·intro t cU;simp only[U.dk,U.dm,U.ar];refine⟨fun aH=>by simp at aH,fun _=>?_⟩;simp[an6 ai cU]
theorem r6 {α:Type} {a:List α} {i:Nat} (h:i<a.length):a.take i++[a[i]]=a.take (i+1):=by rw[lY,cr h];rfl
theorem Ux {l:List Int}:l.Pairwise (· < ·)↔∀k,(h:k+1<l.length)->l[k]<l[k+1]:=by
 constructor
 ·intro h k ae;exact(i7.1 h) k (k+1) (by omega) ae (by omega)
 ·intro h;rw[i7];have key:∀d i (hi:i<l.length) (ao:i+d+1<l.length),l[i]<l[i+d+1]:=by
   intro d
   induction d with
   |zero=>intro i hi ao;exact h i ao
   |succ d aZ=>
    intro i hi ao;have J:=aZ i hi (by omega);have R:=h (i+d+1) (by omega);exact Int.lt_trans J R
  intro i j hi ao dJ;obtain⟨d,rfl⟩:∃d,j=i+d+1:=⟨j-i-1,by omega⟩;exact key d i hi ao
theorem afR (l:List Int) (ai:l.length<4611686018427387904):LC (l,())=some (decide (l.Pairwise (· < ·)),()):=by
 rw[<-U.eq_iff];unfold LC;simp only[U.dm];by_cases aV:l.length=0
 ·have:l=[]:=PB.1 aV;subst this;refine U.loop (fun s=>s=(1,())) (fun _=>0) rfl ?_;rintro _ rfl;simp[U.ar]
 ·refine U.for (i0:=1) l.length (fun i _=>∀k,(h:k+1<l.length)->k+1<i->l[k]<l[k+1]) rfl (fun k _ h=>by omega) (by omega) ?_ ?_
  ·rintro i _ J hi cU;simp only[U.dk,U.dm,U.ar,U.kf];have e:IntKind.i64.wrap ((i:Int)-1)=((i-1:Nat):Int):=(by rw[wrap64 (by omega) (by omega)];omega);rw[e];refine⟨fun _=>⟨hi,?_⟩,fun aH=>?_⟩
   ·rw[U.kf];refine⟨by omega,?_⟩;refine⟨fun fb=>?_,fun ca=>⟨hh (by omega),fun k ae pV=>?_⟩⟩
    ·have:¬l.Pairwise (· < ·):=fun aw=>by
      have:=Ux.1 aw (i-1) (by omega);simp only[show i-1+1=i by omega] at this;simp at fb;omega
     simp[this]
    ·rcases ct (k+1) i with R|R
     ·exact cU k ae R
     ·obtain rfl:i=k+1:=(by omega);simp at ca;exact ca
   ·simp at aH;omega
  ·intro t cU;simp only[U.dk,U.dm,U.ar];refine⟨fun aH=>by simp at aH,fun _=>?_⟩;have:l.Pairwise (· < ·):=Ux.2 (fun k ae=>cU k ae ae);simp[this]
def mark (m:List Bool) (l:List Int):List Bool:=l.foldl (fun m i=>m.set i.toNat true) m
section
def zL (l:List Int) (n:Int):Prop:=l.Pairwise (· < ·)/\∀x∈l,0<=x/\x<n
theorem U.count {σ ρ:Type} {f:σ->Option (σ⊕ρ)} {Q:ρ->Prop} (az:σ->Int) (n:Nat) (I:Nat->σ->Prop) {i0:Nat} {kG:σ} (Z3:az kG=(i0:Int)) (aV:I i0 kG) (hi:i0<=n) (wu:∀i s,i0<=i->i<n->az s=(i:Int)->I i s->U (f s) (fun|.inl s'=>az s'=((i+1:Nat):Int)/\I (i+1) s'|.inr r=>Q r)) (wg:∀s,az s=(n:Int)->I n s->U (f s) (fun|.inl _=>False|.inr r=>Q r)):U (mz.loop f kG) Q:=by
 refine U.loop (fun s=>∃i:Nat,i0<=i/\i<=n/\az s=(i:Int)/\I i s) (fun s=>n-(az s).toNat) ⟨i0,bU _,hi,Z3,aV⟩ ?_;rintro s ⟨i,ai,hi,e,ah⟩;rcases ct i n with h|h
 ·refine(wu i s ai h e ah).mono ?_;rintro(s'|r) aB
  ·obtain⟨dI,R⟩:=aB;exact⟨⟨i+1,by omega,by omega,dI,R⟩,by rw[e,dI];simp;omega⟩
  ·exact aB
 ·obtain rfl:i=n:=(by omega);refine(wg s e ah).mono ?_;rintro(s'|r) aB
  ·exact aB.elim
  ·exact aB
open Classical in
theorem akm (l:List Int) (n:Int) (ai:l.length<4611686018427387904):K9 (l,n,())=some (decide (zL l n),()):=by
 rw[<-U.eq_iff];unfold K9;simp only[U.dm];refine U.count (fun s=>s.2.1) l.length (fun i s=>s.1=(if i=0 then-1 else l.getD (i-1) 0)/\(l.take i).Pairwise (· < ·)/\∀x∈l.take i,0<=x/\x<n) (i0:=0) rfl ⟨rfl,by simp,by simp⟩ (eX _) ?_ ?_
 ·rintro i ⟨last,j,_⟩ _ hi e ⟨J,R,ac⟩;simp only at e J;subst e;simp only[U.dk,U.dm,U.ar,U.kf];have DX:∀x∈l.take i,x<=last:=by
   intro x ab;rw[J];obtain⟨k,ae,rfl⟩:=jO.1 ab;simp only[eW] at ae;have Bk:i≠0:=(by omega);rw[if_neg Bk];simp only[Fy,List.getD,cr (show i-1<l.length by omega),xO];rcases ct k (i-1) with h|h
   ·have:=(i7.1 R) k (i-1) (by simp;omega) (by simp;omega) h;simp only[Fy] at this;omega
   ·have:k=i-1:=(by omega);subst this;exact xF _
  have sW:-1<=last:=by
   rw[J];by_cases aV:i=0
   ·rw[if_pos aV];exact xF _
   ·rw[if_neg aV];simp only[List.getD,cr (show i-1<l.length by omega),xO];have:=ac (l[i-1]) (jO.2 ⟨i-1,by simp;omega,by simp⟩);omega
  have ot:(l[i]<=last\/n<=l[i])->¬zL l n:=by
   rintro h ⟨fy,eu⟩;rcases h with h|h
   ·rw[J] at h;by_cases aV:i=0
    ·rw[if_pos aV] at h;have:=eu _ (dy hi);omega
    ·rw[if_neg aV] at h;simp only[List.getD,cr (show i-1<l.length by omega),xO] at h;have:=(i7.1 fy) (i-1) i (by omega) hi (by omega);omega
   ·have:=eu _ (dy hi);omega
  refine⟨fun _=>⟨hi,fun bS=>⟨fun bt=>?_,fun bt=>?_⟩,fun bS=>?_⟩,fun aH=>by simp at aH;omega⟩
  ·have:=ot (.inr (by simpa using bt));simp[this]
  ·simp at bS bt;refine⟨hh (by omega),?_,?_,?_⟩
   ·simp[List.getD,hi]
   ·rw[<-r6 hi,List.pairwise_append];refine⟨R,by simp,fun a aC b aa=>?_⟩;simp only[fh] at aa;subst aa;have:=DX a aC;omega
   ·rw[<-r6 hi];intro x ab;rcases fg.1 ab with ab|ab
    ·exact ac x ab
    ·simp only[fh] at ab;subst ab;omega
  ·have:=ot (.inl (by simpa using bS));simp[this]
 ·rintro⟨last,j,_⟩ e ⟨J,R,ac⟩;simp only at e;subst e;simp only[U.dk,U.ar];refine⟨fun aH=>by simp at aH,fun _=>?_⟩;rw[vw] at R ac;have:zL l n:=⟨R,ac⟩;simp[this]
theorem Wn (x y:Int):Au (x,y,())=some (decide (x<y),()):=by unfold Au x3;simp
theorem afE (x:Int) (J:0<=x) (R:x<18446744073709551616):IntKind.u64.wrap x=x:=by unfold IntKind.wrap;rw[if_neg (by simp[IntKind.signed])];show x %18446744073709551616=x;omega
theorem afW (l:List Int) (v:Int) (ai:l.length<4611686018427387904) (aw:l.Pairwise (· < ·)):U (Ls (l,v,())) (fun r=>r.2.1=decide (v∈l)):=by
 unfold Ls;simp only[U.dm];refine U.mono (P:=fun q=>∃i:Nat,q.1=(i:Int)/\i<=l.length/\(∀k,(h:k<l.length)->k<i->l[k]<v)/\(∀k,(h:k<l.length)->i<=k->v<=l[k])) ?_ ?_
 ·refine U.loop (fun s=>∃i j:Nat,s.1=(i:Int)/\s.2.1=(j:Int)/\i<=j/\j<=l.length/\(∀k,(h:k<l.length)->k<i->l[k]<v)/\(∀k,(h:k<l.length)->j<=k->v<=l[k])) (fun s=>(s.2.1-s.1).toNat) ⟨0,l.length,rfl,rfl,eX _,bU _,fun k _ h=>by omega,fun k J R=>by omega⟩ ?_;rintro⟨lf,s6,_⟩ ⟨i,j,rfl,rfl,dJ,ao,J,R⟩;simp only[U.dk,U.dm,U.ar];refine⟨fun ca=>?_,fun kS=>?_⟩
  ·have ca:i<j:=(by simpa using ca);have aA:IntKind.i64.wrap ((i:Int)+j)=(i:Int)+j:=wrap64 (by omega) (by omega);rw[aA,afE _ (by omega) (by omega)];have hs:d6 IntKind.u64 ((i:Int)+j) 1=some (((i+j)/2:Nat):Int):=by
    unfold d6;rw[if_pos (by omega)];congr 1;show((i:Int)+j).fdiv (2^min 1 64)=_;rw[show(2:Int)^min 1 64=2 from rfl,J3 _ (by omega)];omega
   rw[hs];simp only[U.ar];have aX:IntKind.i64.wrap (((i+j)/2:Nat):Int)=(((i+j)/2:Nat):Int):=wrap64 (by omega) (by omega);rw[aX,U.kf];refine⟨by omega,?_⟩;rw[Wn];simp only[U.ar,U.dk];have ay:(i+j)/2<l.length:=(by omega);refine⟨fun yz=>?_,fun yz=>?_⟩
   ·have yz:l[(i+j)/2]<v:=(by simpa using yz);rw[hh (by omega)];refine⟨⟨(i+j)/2+1,j,rfl,rfl,by omega,ao,fun k ae pV=>?_,R⟩,by omega⟩;rcases ct k ((i+j)/2) with h|h
    ·exact Int.lt_trans ((i7.1 aw) k _ ae ay h) yz
    ·have:k=(i+j)/2:=(by omega);subst this;exact yz
   ·have yz:v<=l[(i+j)/2]:=(by simpa using yz);refine⟨⟨i,(i+j)/2,rfl,rfl,by omega,by omega,J,fun k ae pV=>?_⟩,by omega⟩;rcases ct ((i+j)/2) k with h|h
    ·have:=(i7.1 aw) _ k ay ae h;omega
    ·have:k=(i+j)/2:=(by omega);subst this;exact yz
  ·have aps:i=j:=by
    have:¬i<j:=(by simpa using kS);omega
   subst aps;exact⟨i,rfl,ao,J,R⟩
 ·rintro⟨lf,_⟩ ⟨i,rfl,hi,J,R⟩;simp only;have mR:(∀h:i<l.length,l[i]≠v)->v∉l:=by
   intro cX ak;obtain⟨k,ae,rfl⟩:=jO.1 ak;rcases rf k i with h|h|h
   ·have:=J k ae h;omega
   ·subst h;exact cX ae rfl
   ·have ch:=R i (by omega) (bU _);have c8:=(i7.1 aw) i k (by omega) ae h;omega
  simp only[U.dk,U.dm,U.ar,U.kf];refine⟨fun ca=>?_,fun kS=>?_⟩
  ·have ca:i<l.length:=(by simpa using ca);refine⟨ca,fun cX=>?_,fun heq=>?_⟩
   ·have cX:l[i]≠v:=(by simpa using cX);refine⟨ca,?_⟩;unfold Ly;simp[U.ar];exact mR (fun _=>cX)
   ·have heq:l[i]=v:=(by simpa using heq);simp[<-heq]
  ·have kS:¬i<l.length:=(by simpa using kS);simp;exact mR (fun h=>absurd h kS)
structure gg (al:List (List Int)):Prop where
 asc:∀v,(h:v<al.length)->zL al[v] al.length
 aaX:∀v,(h:v<al.length)->(v:Int)∉al[v]
 sym:∀v,(h:v<al.length)->∀w:Nat,(hw:w<al.length)->(w:Int)∈al[v]->(v:Int)∈al[w]
open Classical in
def kc (al:List (List Int)):Int:=if 200<al.length then 6 else if gg al then 0 else 1
open Classical in
theorem S6 (al:List (List Int)) (v:Nat) (w:Int) (hv:v<al.length) (ai:al[v].length<4611686018427387904) (aw:al[v].Pairwise (· < ·)):Dh ((al,()),(v:Int),w,())=some (decide (w∈al[v]),()):=by rw[<-U.eq_iff];unfold Dh;simp only[U.dm,U.kf];refine⟨hv,(afW _ _ ai aw).mono ?_⟩;rintro⟨i,b,_⟩ h;simp only at h;rw[U.ar,h]
theorem Wa (al:List (List Int)) (hc:∀l∈al,l.length<4611686018427387904):F1 ((al,()),())=some (kc al,()):=by
 classical
 rw[<-U.eq_iff];unfold F1;simp only[U.dk,U.dm,U.ar];refine⟨fun h=>?_,fun h=>?_⟩
 ·have:200<al.length:=(by simp at h;omega);simp[kc,this]
 have ag:¬200<al.length:=(by simp at h;omega);have ot:¬gg al->(1:Int)=kc al:=fun h=>(by simp[kc,ag,h]);refine U.mono (P:=fun q=>(q=.inr (1,())/\¬gg al)\/(q=.inl ()/\∀k,(h:k<al.length)->zL al[k] al.length/\(k:Int)∉al[k])) ?_ ?_
 ·refine U.for (i0:=0) al.length (fun i _=>∀k,k<i->(h:k<al.length)->zL al[k] al.length/\(k:Int)∉al[k]) rfl (fun k ae=>by omega) (eX _) ?_ ?_
  ·rintro i _ _ hi cU;simp only[U.dk,U.dm,U.ar,U.kf];refine⟨fun _=>⟨hi,?_⟩,fun aH=>by simp at aH;omega⟩;rw[akm _ _ (hc _ (dy hi))];simp only[U.ar];refine⟨fun aC=>?_,fun aC=>.inl ⟨trivial,fun hv=>?_⟩⟩
   ·have aC:zL al[i] al.length:=(by simpa using aC);rw[S6 al i i hi (hc _ (dy hi)) aC.1];simp only[U.ar,U.dk];refine⟨fun ao=>.inl ⟨trivial,fun hv=>hv.aaX i hi (by simpa using ao)⟩,fun ao=>⟨hh (by omega),fun k ae qB=>?_⟩⟩;rcases ct k i with R|R
    ·exact cU k R qB
    ·obtain rfl:k=i:=(by omega);exact⟨aC,by simpa using ao⟩
   ·have:=hv.asc i hi;simp[this] at aC
  ·intro t cU;simp only[U.dk,U.ar];exact⟨fun aH=>by simp at aH,fun _=>.inr ⟨trivial,fun k ae=>cU k ae ae⟩⟩
 ·rintro q (⟨rfl,hv⟩|⟨rfl,dY⟩)
  ·simp only[U.ar,ot hv]
  simp only[U.dm];have aqp:(∀v,(h:v<al.length)->∀x∈al[v],∀w:Nat,x=(w:Int)->(hw:w<al.length)->(v:Int)∈al[w])->gg al:=fun h=>⟨fun v hv=>(dY v hv).1,fun v hv=>(dY v hv).2,fun v hv w hw ak=>h v hv w ak w rfl hw⟩;refine U.mono (P:=fun q=>(q=.inr (1,())/\¬gg al)\/(q=.inl ()/\∀v,(h:v<al.length)->∀x∈al[v],∀w:Nat,x=(w:Int)->(hw:w<al.length)->(v:Int)∈al[w])) ?_ ?_
  ·refine U.for (i0:=0) al.length (fun i _=>∀v,v<i->(h:v<al.length)->∀x∈al[v],∀w:Nat,x=(w:Int)->(hw:w<al.length)->(v:Int)∈al[w]) rfl (fun k ae=>by omega) (eX _) ?_ ?_
   ·rintro i _ _ hi cU;simp only[U.dk,U.dm,U.kf];refine⟨fun _=>⟨hi,?_⟩,fun aH=>by simp at aH;omega⟩;have apE:=hc _ (dy hi);refine U.mono (P:=fun q=>(q=.inr (.inr (.inr (1,())))/\¬gg al)\/(q=.inl ()/\∀x∈al[i],∀w:Nat,x=(w:Int)->(hw:w<al.length)->(i:Int)∈al[w])) ?_ ?_
    ·refine U.for (i0:=0) al[i].length (fun k _=>∀m,m<k->(h:m<al[i].length)->∀w:Nat,al[i][m]=(w:Int)->(hw:w<al.length)->(i:Int)∈al[w]) rfl (fun k ae=>by omega) (eX _) ?_ ?_
     ·rintro k _ _ ae cA;simp only[U.dk,U.dm,U.kf];refine⟨fun _=>⟨ae,?_⟩,fun aH=>by simp at aH;omega⟩;have hr:=(dY i hi).1.2 _ (dy ae);obtain⟨w,hw⟩:∃w:Nat,al[i][k]=(w:Int):=⟨al[i][k].toNat,by omega⟩;have s4:w<al.length:=(by omega);rw[hw,S6 al w i s4 (hc _ (dy s4)) (dY w s4).1.1];simp only[U.ar,U.dk];refine⟨fun mR=>.inl ⟨trivial,fun hv=>?_⟩,fun Ns=>⟨hh (by omega),fun m ak Hp w' aqz aqA=>?_⟩⟩
      ·have:=hv.sym i hi w s4 (hw▸dy ae);simp[this] at mR
      ·rcases ct m k with R|R
       ·exact cA m R Hp w' aqz aqA
       ·obtain rfl:m=k:=(by omega);have:w'=w:=(by omega);subst this;simpa using Ns
     ·intro t cA;simp only[U.dk,U.ar];refine⟨fun aH=>by simp at aH,fun _=>.inr ⟨trivial,fun x ab w hw s4=>?_⟩⟩;obtain⟨m,ak,rfl⟩:=jO.1 ab;exact cA m ak ak w hw s4
    ·rintro q (⟨rfl,hv⟩|⟨rfl,iC⟩)
     ·simp only[U.ar];exact .inl ⟨trivial,hv⟩
     ·simp only[U.ar];refine⟨hh (by omega),fun v hv pX=>?_⟩;rcases ct v i with R|R
      ·exact cU v R pX
      ·obtain rfl:v=i:=(by omega);exact iC
   ·intro t cU;simp only[U.dk,U.ar];exact⟨fun aH=>by simp at aH,fun _=>.inr ⟨trivial,fun k ae=>cU k ae ae⟩⟩
  ·rintro q (⟨rfl,hv⟩|⟨rfl,iC⟩)
   ·simp only[U.ar,ot hv]
   ·simp only[U.ar];simp[kc,ag,aqp iC]
end
section
inductive fS (A:Nat->Nat->Prop) (k:Nat):Nat->Nat->Prop
 |one {i j:Nat}:A i j->fS A k i j
 |step {i m j:Nat}:A i m->m<k->fS A k m j->fS A k i j
section
variable {A:Nat->Nat->Prop} {k:Nat}
theorem fS.trans {i m j:Nat} (h:fS A k i m) (ak:m<k) (R:fS A k m j):fS A k i j:=by
 induction h with
 |one h=>exact .step h ak R
 |step h ae _ aZ=>exact .step h ae (aZ ak R)
theorem fS.symm (dY:∀a b,A a b->A b a) {i j:Nat} (h:fS A k i j):fS A k j i:=by
 induction h with
 |one h=>exact .one (dY _ _ h)
 |step h ae _ aZ=>exact aZ.trans ae (.one (dY _ _ h))
theorem fS.mono {c0:Nat} (ae:k<=c0) {i j:Nat} (h:fS A k i j):fS A c0 i j:=by
 induction h with
 |one h=>exact .one h
 |step h R _ aZ=>exact .step h (by omega) aZ
theorem fS.first {u p:Nat} (aR:u<p) (h:fS A p u p):∃w,u<w/\w<=p/\fS A u u w/\(w=p\/fS A p w p):=by
 have key:∀{a b:Nat},fS A p a b->b=p->(a=u\/(a<u/\fS A u u a))->∃w,u<w/\w<=p/\fS A u u w/\(w=p\/fS A p w p):=by
  intro a b h
  induction h with
  |@one a b aV=>
   intro aa aC;subst aa;refine⟨b,aR,bU _,?_,.inl rfl⟩;rcases aC with rfl|⟨aC,hw⟩
   ·exact .one aV
   ·exact hw.trans aC (.one aV)
  |@step a m b aV ak hw aZ=>
   intro aa aC;have J:fS A u u m:=by
    rcases aC with rfl|⟨aC,hw⟩
    ·exact .one aV
    ·exact hw.trans aC (.one aV)
   rcases rf m u with hmu|hmu|hmu
   ·exact aZ aa (.inr ⟨hmu,J⟩)
   ·exact aZ aa (.inl hmu)
   ·subst aa;exact⟨m,hmu,by omega,J,.inr hw⟩
 exact key h rfl (.inl rfl)
def ni (A:Nat->Nat->Prop) (u p:Nat):Prop:=u<p/\fS A p u p/\∀q,u<q->q<p->¬fS A q u q
theorem ni.uniq {u p q:Nat} (h:ni A u p) (a7:ni A u q):p=q:=by
 rcases rf p q with ai|aE|ai
 ·exact absurd h.2.1 (a7.2.2 p h.1 ai)
 ·exact aE
 ·exact absurd a7.2.1 (h.2.2 q a7.1 ai)
theorem ni.fill {u p:Nat} (h:ni A u p):fS A u u p:=by
 obtain⟨w,J,R,ac,aL⟩:=fS.first h.1 h.2.1;rcases ct w p with ai|ai
 ·exact absurd (ac.mono (by omega)) (h.2.2 w J ai)
 ·obtain rfl:w=p:=(by omega);exact ac
theorem adm {u q:Nat} (aj:u<q) (hw:fS A q u q):∃p,p<=q/\ni A u p:=by
 have:∀n,∀q,u<q->q<=n->fS A q u q->∃p,p<=q/\ni A u p:=by
  intro n
  induction n with
  |zero=>intro q J R;omega
  |succ n aZ=>
   intro q J R ac;by_cases h:∃r,u<r/\r<q/\fS A r u r
   ·obtain⟨r,kB,fm,SA⟩:=h;obtain⟨p,Su,sY⟩:=aZ r kB (by omega) SA;exact⟨p,by omega,sY⟩
   ·exact⟨q,bU _,J,ac,fun r kB fm SA=>h ⟨r,kB,fm,SA⟩⟩
 exact this q q aj (bU _) hw
inductive i5 (A:Nat->Nat->Prop):Nat->Nat->Prop
 |refl (u:Nat):i5 A u u
 |up {u p v:Nat}:ni A u p->i5 A p v->i5 A u v
theorem i5.le {u v:Nat} (h:i5 A u v):u<=v:=by
 induction h with
 |refl=>exact bU _
 |up aw _ aZ=>have:=aw.1;omega
theorem i5.trans {u v w:Nat} (h:i5 A u v) (R:i5 A v w):i5 A u w:=by
 induction h with
 |refl=>exact R
 |up aw _ aZ=>exact .up aw (aZ R)
theorem i5.walk {u v:Nat} (h:i5 A u v):u=v\/fS A v u v:=by
 induction h with
 |refl=>exact .inl rfl
 |@up u p v aw hv aZ=>
  right;have Hw:=hv.le;rcases aZ with rfl|aZ
  ·exact aw.2.1
  ·rcases ct p v with ai|ai
   ·exact(aw.2.1.mono Hw).trans ai aZ
   ·obtain rfl:p=v:=(by omega);exact aw.2.1
theorem aj8 (dY:∀a b,A a b->A b a) {u j:Nat} (aR:u<j) (h:fS A j u j):i5 A u j:=by
 have:∀n,∀u,u<j->j-u<=n->fS A j u j->i5 A u j:=by
  intro n
  induction n with
  |zero=>intro u J R;omega
  |succ n aZ=>
   intro u J R ac;obtain⟨p,Su,sY⟩:=adm J ac;rcases ct p j with ai|ai
   ·refine .up sY (aZ p ai (by have:=sY.1;omega) ?_);exact((sY.2.1.symm dY).mono (by omega)).trans J ac
   ·obtain rfl:p=j:=(by omega);exact .up sY (.refl _)
 exact this (j-u) u aR (bU _) h
theorem aem (dY:∀a b,A a b->A b a) {i j:Nat} (dJ:j<i):fS A j j i↔∃k,A i k/\i5 A k j:=by
 constructor
 ·intro h;have a7:=h.symm dY;cases a7 with
  |one J=>exact⟨j,J,.refl _⟩
  |@step _ m _ J ak hw=>exact⟨m,J,aj8 dY ak hw⟩
 ·rintro⟨k,J,R⟩;have:∀{k j:Nat},i5 A k j->j<i->(k<i->fS A k k i)->fS A j j i:=by
   intro k j h
   induction h with
   |refl=>intro ao h;exact h ao
   |@up u p v aw hv aZ=>
    intro kC aR;refine aZ kC (fun Sv=>?_);have aqt:u<i:=(by have:=aw.1;omega);have J:=aR aqt;have R:=aw.fill;exact((R.symm dY).mono (by have:=aw.1;omega)).trans aw.1 (J.mono (by have:=aw.1;omega))
  exact this R dJ (fun _=>.one (dY _ _ J))
end
end
section
def fj (al:List (List Int)) (v w:Nat):Prop:=∃h:v<al.length,(w:Int)∈al[v]
theorem fj.lt {al:List (List Int)} (hv:gg al) {v w:Nat} (h:fj al v w):v<al.length/\w<al.length:=by obtain⟨J,R⟩:=h;have:=(hv.asc v J).2 _ R;exact⟨J,by omega⟩
theorem fj.symm {al:List (List Int)} (hv:gg al):∀v w,fj al v w->fj al w v:=fun v w h=>by obtain⟨J,R⟩:=h.lt hv;exact⟨R,hv.sym v J w R h.2⟩
theorem fj.ne {al:List (List Int)} (hv:gg al) {v w:Nat} (h:fj al v w):v≠w:=fun e=>by subst e;exact hv.aaX v h.1 h.2
theorem fS.lt {al:List (List Int)} (hv:gg al) {k i j:Nat} (h:fS (fj al) k i j):i<al.length/\j<al.length:=by
 induction h with
 |one h=>exact h.lt hv
 |step h _ _ aZ=>exact⟨(h.lt hv).1,aZ.2⟩
inductive iy (cd:Nat->Nat->Prop):Nat->Nat->Prop
 |refl (u:Nat):iy cd u u
 |step {u p v:Nat}:cd u p->iy cd p v->iy cd u v
theorem iy.trans {cd:Nat->Nat->Prop} {u v w:Nat} (h:iy cd u v) (R:iy cd v w):iy cd u w:=by
 induction h with
 |refl=>exact R
 |step h _ aZ=>exact .step h (aZ R)
theorem iy.mono {cd Wu:Nat->Nat->Prop} (aq:∀u p,cd u p->Wu u p) {u v:Nat} (h:iy cd u v):iy Wu u v:=by
 induction h with
 |refl=>exact .refl _
 |step h _ aZ=>exact .step (aq _ _ h) aZ
theorem iy.comp {cd:Nat->Nat->Prop} (ku:∀u p q,cd u p->cd u q->p=q) {u a b:Nat} (h:iy cd u a) (R:iy cd u b):iy cd a b\/iy cd b a:=by
 induction h with
 |refl=>exact .inl R
 |@step u p a aq hv aZ=>
  cases R with
  |refl=>exact .inr (.step aq hv)
  |@step _ q _ eK kC=>
   obtain rfl:=ku _ _ _ aq eK;exact aZ kC
section
variable (al:List (List Int))
def vy (j:Nat) (T:Nat->Prop) (u p:Nat):Prop:=
 (p<j/\ni (fj al) u p)\/(p=j/\u<j/\(∀q,q<j->¬ni (fj al) u q)/\∃i,T i/\i<j/\fj al j i/\i5 (fj al) i u)
def gb (d3:List Int) (u p:Nat):Prop:=d3[u]?=some (p:Int)
structure n7 (j:Nat) (T:Nat->Prop) (d3 oU:List Int):Prop where
 BI:d3.length=al.length
 abq:oU.length=al.length
 nT:∀u p,gb d3 u p↔(u<al.length/\vy al j T u p)
 none:∀(u:Nat) (x:Int),d3[u]?=some x->x=-1\/∃p:Nat,x=(p:Int)
 Kn:∀u:Nat,oU[u]?=some (-1)↔d3[u]?=some (-1)
 Ko:∀(u:Nat) (x:Int),oU[u]?=some x->x=-1\/∃a p:Nat,x=(a:Int)/\gb d3 u p/\iy (gb d3) p a
variable {al} {j:Nat} {T:Nat->Prop} {d3 oU:List Int}
theorem vy.lt {u p:Nat} (h:vy al j T u p):u<p/\p<=j:=by
 rcases h with⟨J,R⟩|⟨J,R,_⟩
 ·exact⟨R.1,by omega⟩
 ·omega
theorem n7.zz (h:n7 al j T d3 oU) {u v:Nat} (aR:iy (gb d3) u v):u<=v/\(u=v\/v<=j):=by
 induction aR with
 |refl=>exact⟨bU _,.inl rfl⟩
 |@step u p v aq hv aZ=>
  have J:=((h.nT _ _).1 aq).2.lt;rcases aZ.2 with e|e
  ·exact⟨by omega,.inr (by omega)⟩
  ·exact⟨by omega,.inr e⟩
theorem n7.VJ (h:n7 al j T d3 oU) {u v:Nat} (aR:iy (gb d3) u v) (hv:v<j):i5 (fj al) u v:=by
 induction aR with
 |refl=>exact .refl _
 |@step u p v aq jf aZ=>
  have aw:p<=v:=(h.zz jf).1;rcases((h.nT _ _).1 aq).2 with⟨_,R⟩|⟨J,_⟩
  ·exact .up R (aZ hv)
  ·omega
theorem n7.afn (h:n7 al j T d3 oU) {u:Nat} (aR:iy (gb d3) u j) (ca:u<j):∃w,i5 (fj al) u w/\w<j/\gb d3 w j:=by
 generalize hv:j=v at aR
 induction aR with
 |refl=>omega
 |@step u p v aq jf aZ=>
  subst hv;have J:=((h.nT _ _).1 aq).2.lt;rcases ct p j with aw|aw
  ·obtain⟨w,ve,fe,dt⟩:=aZ aw rfl;rcases((h.nT _ _).1 aq).2 with⟨_,R⟩|⟨R,_⟩
   ·exact⟨w,.up R ve,fe,dt⟩
   ·omega
  ·obtain rfl:p=j:=(by omega);exact⟨u,.refl _,by omega,aq⟩
theorem UY {j u:Nat} {r s:Nat} (h:i5 (fj al) u r) (a7:i5 (fj al) u s) (hr:∀q,q<j->¬ni (fj al) r q) (hs:∀q,q<j->¬ni (fj al) s q) (yF:r<j) (aBx:s<j):r=s:=by
 induction h with
 |refl u=>
  cases a7 with
  |refl=>rfl
  |@up _ p _ aw hv=>exact absurd aw (hr p (by have:=hv.le;omega))
 |@up u p r aw hv aZ=>
  cases a7 with
  |refl=>exact absurd aw (hs p (by have:=hv.le;omega))
  |@up _ q _ aj hw=>
   obtain rfl:=aw.uniq aj;exact aZ hw hr yF
theorem gb.ku {d3:List Int}:∀u p q,gb d3 u p->gb d3 u q->p=q:=fun u p q h a7=>by unfold gb at h a7;rw[h] at a7;simp at a7;omega
theorem iy.tail {cd:Nat->Nat->Prop} {u v:Nat} (h:iy cd u v) (cX:u≠v):∃p,cd u p/\iy cd p v:=by
 cases h with
 |refl=>exact absurd rfl cX
 |step aq hv=>exact⟨_,aq,hv⟩
theorem aq1 (c4:gg al) (ag:al.length<=200) (h:n7 al j T d3 oU) (ao:j<al.length) {i0:Nat} (Bk:fj al j i0):U (K0 ((d3,(oU,())),(i0:Int),(j:Int),())) (fun r=>n7 al j (fun i=>T i\/i=i0) r.1.1 r.1.2.1):=by
 have kT:i0<al.length:=(Bk.lt c4).2;unfold K0;simp only[U.dm]
 let Fin:List Int->List Int->Prop:=fun BZ su=>
  (∀u,su[u]?=oU[u]?\/(su[u]?=some (j:Int)/\u<j/\iy (gb d3) i0 u))/\su.length=al.length/\
  ((BZ=d3/\(iy (gb d3) i0 j\/j<=i0))\/∃r,r<j/\d3[r]?=some (-1)/\iy (gb d3) i0 r/\BZ=d3.set r (j:Int)/\su[r]?=some (j:Int))
 refine U.mono (P:=fun q=>Fin q.1.1 q.1.2.1) ?_ ?_
 ·refine U.loop (fun s=>(s.1=-1/\Fin s.2.1.1 s.2.1.2.1)\/∃i:Nat,s.1=(i:Int)/\i<al.length/\iy (gb d3) i0 i/\s.2.1.1=d3/\s.2.1.2.1.length=al.length/\∀u,s.2.1.2.1[u]?=oU[u]?\/(s.2.1.2.1[u]?=some (j:Int)/\u<j/\u<i/\iy (gb d3) i0 u)) (fun s=>if s.1=-1 then 0 else 1000-s.1.toNat) (.inr ⟨i0,rfl,kT,.refl _,rfl,h.abq,fun u=>.inl rfl⟩) ?_;rintro⟨lf,⟨BZ,su,_⟩,_⟩ hs;simp only at hs;simp only[U.dm,U.dk,U.ar];rcases hs with⟨rfl,dn⟩|⟨i,rfl,hi,jf,rfl,RU,DM⟩
  ·exact⟨fun aH=>by simp at aH,fun _=>dn⟩
  refine⟨fun _=>⟨fun dJ=>?_,fun dJ=>?_⟩,fun aH=>by simp at aH⟩
  ·have dJ:i<j:=(by simpa using dJ);simp only[U.uH,U.t9,U.Ir,U.ar,d7];have wj:i<su.length:=(by omega);have ZA:su[i]?=oU[i]?:=by
    rcases DM i with e|⟨_,_,ai,_⟩
    ·exact e
    ·omega
   refine⟨⟨by omega,wj⟩,wj,⟨by omega,wj⟩,wj,fun lI=>?_,fun lI=>?_⟩
   ·have lI:su[i]=-1:=(by simpa using lI);have s0:BZ[i]?=some (-1):=(h.Kn i).1 (by rw[<-ZA,cr wj,lI]);have nJ:i<BZ.length:=(by rw[h.BI];exact hi);refine⟨⟨by omega,nJ⟩,nJ,.inl ⟨lI,?_,?_,.inr ⟨i,dJ,s0,jf,rfl,?_⟩⟩,?_⟩
    ·intro u;rcases rf u i with aR|aR|aR
     ·rw[qk (by omega)];exact(DM u).imp id (fun⟨a,b,_,c⟩=>⟨a,b,c⟩)
     ·subst aR;rw[oN wj];exact .inr ⟨rfl,dJ,jf⟩
     ·rw[qk (by omega)];exact(DM u).imp id (fun⟨a,b,_,c⟩=>⟨a,b,c⟩)
    ·simp[RU]
    ·rw[oN wj]
    ·rw[if_pos lI,if_neg (by omega)];omega
   ·have lI:su[i]≠-1:=(by simpa using lI);rcases h.Ko i su[i] (by rw[<-ZA,cr wj]) with e|⟨a,p,aC,aq,Ng⟩
    ·exact absurd e lI
    have ca:=((h.nT _ _).1 aq).2.lt;have ap3:=h.zz Ng;have oo:a<al.length:=by rcases ap3.2 with e|e<;>omega
    refine⟨.inr ⟨a,aC,oo,jf.trans (.step aq Ng),trivial,by simp[RU],fun u=>?_⟩,?_⟩
    ·rcases rf u i with aR|aR|aR
     ·rw[qk (by omega)];exact(DM u).imp id (fun⟨ch,b,c,d⟩=>⟨ch,b,by omega,d⟩)
     ·subst aR;rw[oN wj];exact .inr ⟨rfl,dJ,by omega,jf⟩
     ·rw[qk (by omega)];exact(DM u).imp id (fun⟨ch,b,c,d⟩=>⟨ch,b,by omega,d⟩)
    ·rw[if_neg lI,if_neg (by omega),aC];simp only[d7];omega
  ·have dJ:j<=i:=(by simpa using dJ);refine⟨fun u=>(DM u).imp id (fun⟨a,b,_,c⟩=>⟨a,b,c⟩),RU,.inl ⟨rfl,?_⟩⟩;rcases(h.zz jf).2 with e|e
   ·exact .inr (by omega)
   ·obtain rfl:i=j:=(by omega);exact .inl jf
 ·rintro⟨⟨BZ,su,_⟩,_⟩ ⟨f1,cE,g6⟩;simp only at f1 cE g6;simp only[U.ar];rcases g6 with⟨rfl,jf⟩|⟨r,hr,s0,jf,rfl,aoL⟩
  ·have rI:∀u p,u<al.length->(vy al j (fun i=>T i\/i=i0) u p↔vy al j T u p):=by
    intro u p _;constructor
    ·rintro(J|⟨rfl,R,ac,i,bm,dJ,aa,oq⟩)
     ·exact .inl J
     ·rcases bm with bm|rfl
      ·exact .inr ⟨rfl,R,ac,i,bm,dJ,aa,oq⟩
      ·rcases jf with jf|jf
       ·obtain⟨w,ve,fe,dt⟩:=h.afn jf dJ;have hw:=((h.nT _ _).1 dt).2;rcases hw with⟨ay,_⟩|hw
        ·omega
        ·obtain rfl:=UY ve oq hw.2.2.1 ac fe R;exact .inr hw
       ·omega
    ·rintro(J|⟨rfl,R,ac,i,bm,dJ,aa,oq⟩)
     ·exact .inl J
     ·exact .inr ⟨rfl,R,ac,i,.inl bm,dJ,aa,oq⟩
   refine⟨h.BI,cE,fun u p=>(h.nT u p).trans (and_congr_right fun aR=>(rI u p aR).symm),h.none,fun u=>?_,fun u x ab=>?_⟩
   ·rcases f1 u with e|⟨e,aR,uw⟩
    ·rw[e];exact h.Kn u
    ·rw[e];constructor
     ·intro ay;simp at ay
     ·intro ay;rcases jf with jf|jf
      ·obtain⟨w,ve,fe,dt⟩:=h.afn jf (by have:=(h.zz uw).1;omega);have oq:=h.VJ uw aR;have uD:∀q,q<j->¬ni (fj al) u q:=fun q aj aw=>by
        have:gb BZ u q:=(h.nT u q).2 ⟨by omega,.inl ⟨aj,aw⟩⟩;unfold gb at this;rw[ay] at this;simp at this
       rcases((h.nT _ _).1 dt).2 with⟨Z4,_⟩|hw
       ·omega
       ·obtain rfl:=UY ve oq hw.2.2.1 uD fe aR;unfold gb at dt;rw[ay] at dt;simp at dt
      ·have:=(h.zz uw).1;omega
   ·rcases f1 u with e|⟨e,aR,uw⟩
    ·rw[e] at ab;exact h.Ko u x ab
    ·rw[e] at ab;cases ab;right;have ZY:i0<j:=(by have:=(h.zz uw).1;omega);rcases jf with jf|jf
     ·rcases uw.comp gb.ku jf with hc|hc
      ·obtain⟨p,Su,sY⟩:=hc.tail (by omega);exact⟨j,p,rfl,Su,sY⟩
      ·have:=(h.zz hc).1;omega
     ·omega
  ·have rK:r<d3.length:=by
    rcases ct r d3.length with ay|ay
    ·exact ay
    ·rw[gW ay] at s0;cases s0
   have D3:∀p,¬gb d3 r p:=fun p aw=>(by unfold gb at aw;rw[s0] at aw;simp at aw);have yF:∀q,q<j->¬ni (fj al) r q:=fun q aj aw=>D3 q ((h.nT r q).2 ⟨by have:=h.BI;omega,.inl ⟨aj,aw⟩⟩);have fw:∀u p,gb d3 u p->gb (d3.set r (j:Int)) u p:=fun u p aw=>(by have cX:u≠r:=fun e=>D3 p (e▸aw);unfold gb at aw|-;rw[qk (by omega)];exact aw);have Bp:gb (d3.set r (j:Int)) r j:=(by unfold gb;rw[oN rK]);have ZY:i0<j:=(by have:=(h.zz jf).1;omega);have aaF:∀u,iy (gb d3) i0 u->u≠r->∃p,gb d3 u p/\iy (gb d3) p r:=fun u aR cX=>by
    rcases aR.comp gb.ku jf with hc|hc
    ·exact hc.tail cX
    ·obtain⟨p,aw,_⟩:=hc.tail (Ne.symm cX);exact absurd aw (D3 p)
   refine⟨by simp[h.BI],cE,fun u p=>?_,fun u x ab=>?_,fun u=>?_,fun u x ab=>?_⟩
   ·by_cases uE:u=r
    ·subst uE;have e:gb (d3.set u (j:Int)) u p↔p=j:=⟨fun aw=>gb.ku _ _ _ aw Bp,fun e=>e▸Bp⟩;rw[e];constructor
     ·rintro rfl;exact⟨by have:=h.BI;omega,.inr ⟨rfl,hr,yF,i0,.inr rfl,ZY,Bk,h.VJ jf hr⟩⟩
     ·rintro⟨_,⟨J,R⟩|⟨J,_⟩⟩
      ·exact absurd R (yF p J)
      ·exact J
    ·have e:gb (d3.set r (j:Int)) u p↔gb d3 u p:=(by unfold gb;rw[qk (by omega)]);rw[e,h.nT];refine and_congr_right fun _=>?_;constructor
     ·rintro(J|⟨rfl,R,ac,i,bm,dJ,aa,oq⟩)
      ·exact .inl J
      ·exact .inr ⟨rfl,R,ac,i,.inl bm,dJ,aa,oq⟩
     ·rintro(J|⟨rfl,R,ac,i,bm,dJ,aa,oq⟩)
      ·exact .inl J
      ·rcases bm with bm|rfl
       ·exact .inr ⟨rfl,R,ac,i,bm,dJ,aa,oq⟩
       ·exact absurd (UY oq (h.VJ jf hr) ac yF R hr) uE
   ·by_cases uE:u=r
    ·subst uE;rw[oN rK] at ab;cases ab;exact .inr ⟨j,rfl⟩
    ·rw[qk (by omega)] at ab;exact h.none u x ab
   ·by_cases uE:u=r
    ·subst uE;rw[aoL,oN rK]
    ·rw[qk (by omega)];rcases f1 u with e|⟨e,aR,uw⟩
     ·rw[e];exact h.Kn u
     ·rw[e];constructor
      ·intro ay;simp at ay
      ·intro ay;obtain⟨p,aw,_⟩:=aaF u uw uE;unfold gb at aw;rw[ay] at aw;simp at aw
   ·rcases f1 u with e|⟨e,aR,uw⟩
    ·rw[e] at ab;rcases h.Ko u x ab with e|⟨a,p,aC,aq,Ng⟩
     ·exact .inl e
     ·exact .inr ⟨a,p,aC,fw _ _ aq,Ng.mono fw⟩
    ·rw[e] at ab;cases ab;right;by_cases uE:u=r
     ·subst uE;exact⟨j,j,rfl,Bp,.refl _⟩
     ·obtain⟨p,aw,ap5⟩:=aaF u uw uE;exact⟨j,p,rfl,fw _ _ aw,(ap5.mono fw).trans (.step Bp (.refl _))⟩
end
end
theorem aeE (n i:Nat) (l:List Int) (x:Int) (ai:l=List.replicate i x++List.replicate (n-i) 0) (hi:i<n):l.set i x=List.replicate (i+1) x++List.replicate (n-(i+1)) 0:=by
 subst ai;apply jN;intro k;rw[xJ];simp only[tS,vv,List.getElem?_append,qj];split
 ·rename_i h;subst h;rw[if_pos (by omega),if_pos (by omega)];split<;>first|rfl|omega
 ·by_cases J:k<i
  ·rw[if_pos J,if_pos J,if_pos (show k<i+1 by omega),if_pos (show k<i+1 by omega)]
  ·rw[if_neg J,if_neg (show¬k<i+1 by omega)];by_cases R:k-i<n-i
   ·rw[if_pos R,if_pos (show k-(i+1)<n-(i+1) by omega)]
   ·rw[if_neg R,if_neg (show¬k-(i+1)<n-(i+1) by omega)]
theorem atm (n:Nat) (ag:n<=200):K1 ((n:Int),())=some ((List.replicate n (-1),(List.replicate n (-1),())),()):=by
 rw[<-U.eq_iff];unfold K1;have g9:gS=4294967296:=rfl;simp only[U.dm,U.Eu,U.ar,d7];refine⟨⟨by omega,by omega,by omega⟩,⟨by omega,by omega,by omega⟩,?_⟩;refine U.for (i0:=0) n (fun i t=>t.1.1=List.replicate i (-1)++List.replicate (n-i) 0/\t.1.2.1=List.replicate i (-1)++List.replicate (n-i) 0) rfl ⟨by simp,by simp⟩ (eX _) ?_ ?_
 ·rintro i ⟨⟨p,a,_⟩,_⟩ _ hi ⟨J,R⟩;simp only at J R;have dp:p.length=n:=(by rw[J];simp;omega);have l2:a.length=n:=(by rw[R];simp;omega);simp only[U.dk,U.dm,U.ar,U.uH,U.t9,U.Ir,d7];exact⟨fun _=>⟨⟨by omega,by omega⟩,by omega,⟨by omega,by omega⟩,by omega,hh (by omega),aeE n i p _ J hi,aeE n i a _ R hi⟩,fun aH=>by simp at aH;omega⟩
 ·rintro⟨⟨p,a,_⟩,_⟩ ⟨J,R⟩;simp only at J R;simp only[U.dk,U.ar];refine⟨fun aH=>by simp at aH,fun _=>?_⟩;rw[J,R];simp
structure Pw (al:List (List Int)) (d3:List Int):Prop where
 len:d3.length=al.length
 nT:∀u p:Nat,d3[u]?=some (p:Int)↔ni (fj al) u p
 none:∀(u:Nat) (x:Int),d3[u]?=some x->x=-1\/∃p:Nat,x=(p:Int)
theorem ayN (al:List (List Int)):n7 al 0 (fun _=>False) (List.replicate al.length (-1)) (List.replicate al.length (-1)):=by
 refine⟨by simp,by simp,fun u p=>?_,fun u x ab=>?_,fun u=>Iff.rfl,fun u x ab=>?_⟩
 ·constructor
  ·intro h;unfold gb at h;rw[qj] at h;split at h
   ·simp at h
   ·cases h
  ·rintro⟨_,⟨h,_⟩|⟨_,h,_⟩⟩<;>omega
 ·rw[qj] at ab;split at ab
  ·cases ab;exact .inl rfl
  ·cases ab
 ·rw[qj] at ab;split at ab
  ·cases ab;exact .inl rfl
  ·cases ab
theorem n7.afc {al:List (List Int)} {j s6:Nat} {T jR:Nat->Prop} {d3 oU:List Int} (h:n7 al j T d3 oU) (aE:∀u p,u<al.length->(vy al j T u p↔vy al s6 jR u p)):n7 al s6 jR d3 oU:=
 ⟨h.BI,h.abq,fun u p=>(h.nT u p).trans (and_congr_right fun aR=>aE u p aR),h.none,h.Kn,h.Ko⟩
theorem av9 {al:List (List Int)} (c4:gg al) {j:Nat} {T:Nat->Prop} (bm:∀i,fj al j i->T i) (u p:Nat):vy al j T u p↔vy al (j+1) (fun _=>False) u p:=by
 have hs:=fj.symm c4;constructor
 ·rintro(⟨J,R⟩|⟨rfl,R,ac,i,_,dJ,aa,oq⟩)
  ·exact .inl ⟨by omega,R⟩
  ·refine .inl ⟨by omega,R,?_,fun q kU im hw=>?_⟩
   ·have cZ:fS (fj al) p i p:=.one (hs _ _ aa);rcases oq.walk with rfl|hw
    ·exact cZ
    ·exact((hw.symm hs).mono (by omega)).trans dJ cZ
   ·obtain⟨r,kB,fm⟩:=adm kU hw;exact ac r (by omega) fm
 ·rintro(⟨J,R⟩|⟨_,_,_,_,h,_⟩)
  ·rcases ct p j with aw|aw
   ·exact .inl ⟨aw,R⟩
   ·obtain rfl:p=j:=(by omega);obtain⟨k,nH,gI⟩:=(aem hs R.1).1 R.fill;exact .inr ⟨rfl,R.1,fun q aj St=>by have:=St.uniq R;omega,k,bm k nH,by have:=gI.le;have:=R.1;omega,nH,gI⟩
  ·exact h.elim
theorem ajJ (al:List (List Int)) (hc:∀l∈al,l.length<4611686018427387904) (ag:al.length<=200) (c4:gg al):U (KZ ((al,()),())) (fun r=>r.2.1=0/\Pw al r.1):=by
 classical
 unfold KZ;have He:kc al=0:=(by unfold kc;rw[if_neg (by omega),if_pos c4]);simp only[U.dm,Wa al hc,He,U.ar,U.dk];refine⟨fun h=>by simp at h,fun _=>?_⟩;rw[atm _ ag];simp only[U.ar];refine U.mono (P:=fun q=>n7 al al.length (fun _=>False) q.1.1 q.1.2.1) ?_ ?_
 ·refine U.for (i0:=0) al.length (fun j t=>n7 al j (fun _=>False) t.1.1 t.1.2.1) rfl (ayN al) (eX _) ?_ ?_
  ·rintro j ⟨⟨p,a,_⟩,_⟩ _ ao bE;simp only at bE;simp only[U.dk,U.dm,U.kf,U.ar];refine⟨fun _=>⟨ao,?_⟩,fun aH=>by simp at aH;omega⟩;have aBs:=hc _ (dy ao);refine U.mono (P:=fun q=>n7 al (j+1) (fun _=>False) q.1.1 q.1.2.1) ?_ ?_
   ·refine U.for (i0:=0) al[j].length (fun k t=>n7 al j (fun i=>(i:Int)∈al[j].take k) t.1.1 t.1.2.1) rfl (by simpa using bE) (eX _) ?_ ?_
    ·rintro k ⟨⟨w1,b9,_⟩,_⟩ _ ae mM;simp only at mM;simp only[U.dk,U.dm,U.kf,U.ar];refine⟨fun _=>⟨ae,?_⟩,fun aH=>by simp at aH;omega⟩;have hr:=(c4.asc j ao).2 _ (dy ae);obtain⟨i,hi⟩:∃i:Nat,al[j][k]=(i:Int):=⟨al[j][k].toNat,by omega⟩;have aa:fj al j i:=⟨ao,hi▸dy ae⟩;rw[hi];refine(aq1 c4 ag mM ao aa).mono ?_;rintro⟨⟨eu,c8,_⟩,_⟩ ur;simp only at ur;refine⟨hh (by omega),ur.afc (fun u q _=>?_)⟩;have e:(fun lf:Nat=>(lf:Int)∈al[j].take k\/lf=i)=(fun lf:Nat=>(lf:Int)∈al[j].take (k+1)):=by
      funext lf;rw[<-r6 ae,hi];apply propext;simp only[fg,fh];constructor<;>rintro(h|h)<;>first|exact .inl h|(right;omega)
     rw[e]
    ·rintro⟨⟨w1,b9,_⟩,_⟩ mM;simp only at mM;simp only[U.dk,U.ar];refine⟨fun aH=>by simp at aH,fun _=>?_⟩;rw[vw] at mM;exact mM.afc (fun u q _=>av9 c4 (fun i aa=>aa.2) u q)
   ·rintro⟨⟨w1,b9,_⟩,_⟩ mM;exact⟨hh (by omega),mM⟩
  ·rintro⟨⟨p,a,_⟩,_⟩ bE;simp only[U.dk,U.ar];exact⟨fun aH=>by simp at aH,fun _=>bE⟩
 ·rintro⟨⟨p,a,_⟩,_⟩ bE;simp only at bE;refine⟨trivial,bE.BI,fun u q=>?_,bE.none⟩;rw[show(p[u]?=some (q:Int))=gb p u q from rfl,bE.nT];constructor
  ·rintro⟨_,⟨_,h⟩|⟨_,_,_,_,h,_⟩⟩
   ·exact h
   ·exact h.elim
  ·intro h;have:=h.2.1.lt c4;exact⟨this.1,.inl ⟨this.2,h⟩⟩
section
def ng (al:List (List Int)) (j i:Nat):Prop:=i=j\/(j<i/\fS (fj al) j j i)
open Classical in
def qW (al:List (List Int)) (i:Nat):List Int:=((List.range (i+1)).filter fun j=>decide (ng al j i)).map fun(j:Nat)=>(j:Int)
open Classical in
def nt (al:List (List Int)) (j k:Nat):List Int:=((List.range k).filter fun i=>decide (j<=i/\ng al j i)).map fun(i:Nat)=>(i:Int)
def ck (al:List (List Int)) (j:Nat):List Int:=nt al j al.length
theorem abP {al:List (List Int)} {i j:Nat}:(j:Int)∈qW al i↔j<=i/\ng al j i:=by
 unfold qW;simp only[dz,iv,j9,decide_eq_true_eq];constructor
 ·rintro⟨a,⟨J,R⟩,ac⟩;have:a=j:=(by omega);subst this;exact⟨by omega,R⟩
 ·exact fun⟨J,R⟩=>⟨j,⟨by omega,R⟩,rfl⟩
theorem asN {al:List (List Int)} {i:Nat} {x:Int} (h:x∈qW al i):∃j:Nat,x=(j:Int)/\j<=i/\ng al j i:=by unfold qW at h;simp only[dz,iv,j9,decide_eq_true_eq] at h;obtain⟨a,⟨J,R⟩,ac⟩:=h;exact⟨a,ac.symm,by omega,R⟩
theorem ng.le {al:List (List Int)} {j i:Nat} (h:ng al j i):j<=i:=by rcases h with h|h<;>omega
theorem Ev {al:List (List Int)} {i j:Nat}:(i:Int)∈ck al j↔i<al.length/\ng al j i:=by
 unfold ck nt;simp only[dz,iv,j9,decide_eq_true_eq];constructor
 ·rintro⟨a,⟨J,R⟩,ac⟩;have:a=i:=(by omega);subst this;exact⟨J,R.2⟩
 ·exact fun⟨J,R⟩=>⟨i,⟨J,R.le,R⟩,rfl⟩
theorem OX (p:Nat->Bool) (k:Nat):(((List.range k).filter p).map fun(j:Nat)=>(j:Int)).Pairwise (· < ·):=by rw[CS];refine List.Pairwise.filter _ ?_;exact List.pairwise_lt_range.imp (fun h=>by omega)
theorem axR (al:List (List Int)) (i:Nat):(qW al i).Pairwise (· < ·):=OX _ _
theorem KH (al:List (List Int)) (j:Nat):(ck al j).Pairwise (· < ·):=OX _ _
theorem axS (al:List (List Int)) (i:Nat):(qW al i).length<=i+1:=by unfold qW;rw[i6];exact d8 (lv _ _) (by simp)
theorem X2 (al:List (List Int)) (j k:Nat):(nt al j k).length<=k:=by unfold nt;rw[i6];exact d8 (lv _ _) (by simp)
structure FC (al:List (List Int)) (i:Nat) (N:Nat->Prop) (m:List Bool):Prop where
 len:m.length=i+1
 top:m[i]?=some true
 iff:∀u,u<i->(m[u]?=some true↔∃k,N k/\i5 (fj al) k u)
theorem alq {al:List (List Int)} (c4:gg al) {d3:List Int} (dn:Pw al d3) {i:Nat} (hi:i<al.length) (ag:al.length<=200) {N:Nat->Prop} {wK:List Bool} (bF:FC al i N wK) {k0:Nat} (ae:k0<al.length):U (loop (σ:=aCi) (ρ:=aCo) (fun(s7,qP,_)=>
 Option.bind (α:=aCo⊕aB2) (bif decide (s7>=(0:Int))==true then bif decide (s7<(i:Int))==true then(cH qP.length s7).bind fun HU=>
 (cb qP HU fun GQ=>some GQ).bind fun zG=>
  bif !zG then
 some (.inl (qP,())) else
 some (.inr (.inr (qP,()))) else some (.inr (.inr (qP,()))) else some (.inr (.inr (qP,())))) fun q=>match q with
 |.inl (BM,_)=>(
 (cH BM.length s7).bind fun HV=>
 (cb BM HV fun _=>some (BM.set HV true)).bind fun V4=>
 (bf d3 s7).bind fun VX=>
 some (.inl (VX,V4,())))
 |.inr r=>some r) ((k0:Int),wK,())) (fun r=>FC al i (fun k=>N k\/k=k0) r.1):=by
 refine U.loop (fun s=>s.2.1.length=i+1/\s.2.1[i]?=some true/\(s.1=-1\/∃j:Nat,s.1=(j:Int)/\j<al.length/\i5 (fj al) k0 j)/\(∀u,u<i->s.2.1[u]?=some true->wK[u]?=some true\/i5 (fj al) k0 u)/\(∀u,u<i->wK[u]?=some true->s.2.1[u]?=some true)/\(∀u,u<i->i5 (fj al) k0 u->s.2.1[u]?=some true\/∃j:Nat,s.1=(j:Int)/\i5 (fj al) j u)/\(∀u p,u<i->p<i->s.2.1[u]?=some true->ni (fj al) u p->s.2.1[p]?=some true\/s.1=(p:Int))) (fun s=>if s.1=-1 then 0 else 1000-s.1.toNat) ?_ ?_
 ·refine⟨bF.len,bF.top,.inr ⟨k0,rfl,ae,.refl _⟩,fun u _ h=>.inl h,fun u _ h=>h,fun u _ h=>.inr ⟨k0,rfl,h⟩,fun u p aR aw ak rI=>.inl ?_⟩;obtain⟨k,nH,gI⟩:=(bF.iff u aR).1 ak;exact(bF.iff p aw).2 ⟨k,nH,gI.trans (.up rI (.refl _))⟩
 rintro⟨s6,m,_⟩ ⟨ai,ah,ao,J,R,ac,aL⟩;simp only at ai ah ao J R ac aL;have gm:(∀u,u<i->i5 (fj al) k0 u->m[u]?=some true)->FC al i (fun k=>N k\/k=k0) m:=fun gn=>by
  refine⟨ai,ah,fun u aR=>⟨fun ak=>?_,?_⟩⟩
  ·rcases J u aR ak with h|h
   ·obtain⟨k,nH,gI⟩:=(bF.iff u aR).1 h;exact⟨k,.inl nH,gI⟩
   ·exact⟨k0,.inr rfl,h⟩
  ·rintro⟨k,nH|rfl,gI⟩
   ·exact R u aR ((bF.iff u aR).2 ⟨k,nH,gI⟩)
   ·exact gn u aR gI
 simp only[U.dm,U.dk,U.ar,U.uH,U.t9];rcases ao with rfl|⟨j,rfl,lH,oq⟩
 ·refine⟨fun aH=>by simp at aH,fun _=>gm fun u aR aC=>?_⟩;rcases ac u aR aC with h|⟨j,ao,_⟩
  ·exact h
  ·omega
 refine⟨fun _=>⟨fun o8=>?_,fun o8=>?_⟩,fun aH=>by simp at aH⟩
 ·have o8:j<i:=(by simpa using o8);have yw:j<m.length:=(by omega);simp only[d7];refine⟨⟨by omega,yw⟩,yw,fun mR=>?_,fun Ns=>?_⟩
  ·have Z5:j<d3.length:=(by rw[dn.len];exact lH);refine⟨⟨by omega,yw⟩,yw,?_⟩;rw[U.kf];refine⟨Z5,?_⟩;have nG:d3[j]?=some d3[j]:=cr Z5;have aaf:d3[j]=-1\/∃p:Nat,d3[j]=(p:Int)/\ni (fj al) j p:=by
    rcases dn.none j _ nG with e|⟨p,e⟩
    ·exact .inl e
    ·exact .inr ⟨p,e,(dn.nT j p).1 (by rw[nG,e])⟩
   have qI:∀u,(m.set j true)[u]?=some true↔u=j\/m[u]?=some true:=fun u=>by
    by_cases aR:u=j
    ·subst aR;simp[oN yw]
    ·rw[qk (by omega)];simp[aR]
   refine⟨⟨by simp[ai],by rw[qk (by omega)];exact ah,?_,fun u aR ak=>?_,fun u aR ak=>(qI u).2 (.inr (R u aR ak)),fun u aR aC=>?_,fun u p aR aw ak rI=>?_⟩,?_⟩
   ·rcases aaf with e|⟨p,e,aw⟩
    ·exact .inl e
    ·exact .inr ⟨p,e,(aw.2.1.lt c4).2,oq.trans (.up aw (.refl _))⟩
   ·rcases(qI u).1 ak with rfl|ak
    ·exact .inr oq
    ·exact J u aR ak
   ·rcases ac u aR aC with h|⟨pY,M7,Ha⟩
    ·exact .inl ((qI u).2 (.inr h))
    ·obtain rfl:pY=j:=(by omega);cases Ha with
     |refl=>exact .inl ((qI _).2 (.inl rfl))
     |@up _ p _ aw hv=>
      have:=(dn.nT pY p).2 aw;rw[nG] at this;exact .inr ⟨p,fH this,hv⟩
   ·rcases(qI u).1 ak with rfl|ak
    ·have:=(dn.nT u p).2 rI;rw[nG] at this;exact .inr (fH this)
    ·rcases aL u p aR aw ak rI with h|h
     ·exact .inl ((qI p).2 (.inr h))
     ·exact .inl ((qI p).2 (.inl (by omega)))
   ·rcases aaf with e|⟨p,e,aw⟩
    ·rw[if_pos e,if_neg (by omega)];omega
    ·have:=aw.1;rw[e,if_neg (by omega),if_neg (by omega)];omega
  ·have Z6:m[j]?=some true:=by
    rw[cr yw];simp at Ns;rw[Ns]
   refine gm fun u aR aC=>?_;rcases ac u aR aC with h|⟨pY,M7,Ha⟩
   ·exact h
   ·obtain rfl:pY=j:=(by omega);have:∀{a b:Nat},i5 (fj al) a b->b<i->m[a]?=some true->m[b]?=some true:=by
     intro a b h
     induction h with
     |refl=>exact fun _ h=>h
     |@up a p b aw hv aZ=>
      intro aa Sk;have aBu:=hv.le;refine aZ aa ?_;rcases aL a p (by have:=aw.1;omega) (by omega) Sk aw with h|h
      ·exact h
      ·have:p=pY:=(by omega);rw[this];exact Z6
    exact this Ha aR Z6
 ·have o8:i<=j:=(by simpa using o8);refine gm fun u aR aC=>?_;rcases ac u aR aC with h|⟨pY,M7,Ha⟩
  ·exact h
  ·have:=Ha.le;omega
open Classical in
theorem axT {al:List (List Int)} (c4:gg al) (hc:∀l∈al,l.length<4611686018427387904) {d3:List Int} (dn:Pw al d3) {i:Nat} (hi:i<al.length) (ag:al.length<=200):Md ((al,()),d3,(i:Int),())=some (qW al i,()):=by
 rw[<-U.eq_iff];unfold Md;have g9:gS=4294967296:=rfl;have hs:=fj.symm c4;have pd:IntKind.i64.wrap ((i:Int)+1)=((i+1:Nat):Int):=hh (by omega);simp only[pd,U.dm,U.Eu,U.uH,U.t9,U.ar,d7,U.kf,vv];refine⟨⟨by omega,by omega,by omega⟩,⟨by omega,by omega⟩,by omega,hi,?_⟩;have apE:=hc _ (dy hi);refine U.mono (P:=fun q=>FC al i (fun k=>fj al i k) q.1) ?_ ?_
 ·refine U.for (i0:=0) al[i].length (fun k t=>FC al i (fun x=>(x:Int)∈al[i].take k) t.1) rfl ?_ (eX _) ?_ ?_
  ·refine⟨by simp,by rw[oN (by simp)],fun u aR=>?_⟩;rw[qk (by omega),qj];simp
  ·rintro k ⟨m,_⟩ _ ae bF;simp only at bF;simp only[U.dk,U.dm,U.kf];refine⟨fun _=>⟨ae,?_⟩,fun aH=>by simp at aH;omega⟩;have hr:=(c4.asc i hi).2 _ (dy ae);obtain⟨w,hw⟩:∃w:Nat,al[i][k]=(w:Int):=⟨al[i][k].toNat,by omega⟩;rw[hw];refine(alq c4 dn hi ag bF (k0:=w) (by omega)).mono ?_;rintro⟨iW,_⟩ RN;simp only[U.ar];refine⟨hh (by omega),?_⟩;have e:(fun x:Nat=>(x:Int)∈al[i].take k\/x=w)=(fun x:Nat=>(x:Int)∈al[i].take (k+1)):=by
    funext x;rw[<-r6 ae,hw];apply propext;simp only[fg,fh];constructor<;>rintro(h|h)<;>first|exact .inl h|(right;omega)
   rw[<-e];exact RN
  ·rintro⟨m,_⟩ bF;simp only[U.dk,U.ar];refine⟨fun aH=>by simp at aH,fun _=>?_⟩;rw[vw] at bF;have e:(fun x:Nat=>(x:Int)∈al[i])=(fun x=>fj al i x):=by
    funext x;exact propext ⟨fun h=>⟨hi,h⟩,fun h=>h.2⟩
   rw[<-e];exact bF
 ·rintro⟨m,_⟩ bF;simp only at bF;simp only[U.dm,U.ar];have nG:∀u,(aR:u<m.length)->(m[u]=true↔ng al u i):=by
   intro u aR;have ai:=bF.len;rcases ct u i with h|h
   ·have:=bF.iff u h;rw[cr aR,cS] at this;rw[this,<-aem hs h];constructor
    ·exact fun hw=>.inr ⟨h,hw⟩
    ·rintro(e|⟨_,hw⟩)
     ·omega
     ·exact hw
   ·obtain rfl:u=i:=(by omega);have:=bF.top;rw[cr aR,cS] at this;rw[this];exact⟨fun _=>.inl rfl,fun _=>rfl⟩
  have ai:=bF.len;refine U.for (i0:=0) m.length (fun k t=>t.1=m/\t.2.1=((List.range k).filter fun j=>decide (ng al j i)).map fun(j:Nat)=>(j:Int)) rfl ⟨rfl,rfl⟩ (eX _) ?_ ?_
  ·rintro k ⟨iW,o,_⟩ _ ae ⟨rfl,aJ⟩;simp only at aJ ae ai nG;have Ht:o.length<=k:=by
    rw[aJ,i6];exact d8 (lv _ _) (by simp)
   simp only[U.dk,U.dm,U.uH,U.t9,U.ar,U.yR,d7];refine⟨fun _=>⟨⟨by omega,ae⟩,ae,fun ak=>⟨?_,hh (by omega),trivial,?_⟩,fun ak=>⟨hh (by omega),trivial,?_⟩⟩,fun aH=>by simp at aH;omega⟩
   ·simp;omega
   ·have:=(nG k ae).1 ak;rw[re,rb,jm,<-aJ];simp[this]
   ·have:¬ng al k i:=fun h=>(by rw[(nG k ae).2 h] at ak;cases ak);rw[re,rb,jm,<-aJ];simp[this]
  ·rintro⟨iW,o,_⟩ ⟨rfl,aJ⟩;simp only at aJ;simp only[U.dk,U.ar];refine⟨fun aH=>by simp at aH,fun _=>?_⟩;rw[aJ];unfold qW;rw[ai]
open Classical in
theorem alv (al:List (List Int)) (j k:Nat):nt al j (k+1)=nt al j k++(if j<=k/\ng al j k then[(k:Int)] else[]):=by
 unfold nt;rw[re,rb,jm];congr 1;by_cases h:j<=k/\ng al j k
 ·rw[if_pos h];simp[h]
 ·rw[if_neg h];simp only[nj,List.filter_nil];rw[if_neg (by simpa using h)];rfl
theorem afY {al:List (List Int)} (c4:gg al) (hc:∀l∈al,l.length<4611686018427387904) (ag:al.length<=200):Mc ((al,()),())=some ((List.range al.length).map (ck al),0,()):=by
 classical
 rw[<-U.eq_iff];unfold Mc;have g9:gS=4294967296:=rfl;simp only[U.dm];refine(ajJ al hc ag c4).mono ?_;rintro⟨d3,e,_⟩ ⟨aE,dn⟩;simp only at aE dn;subst aE;have nJ:=dn.len;simp only[U.dk,U.dm,U.ar,U.Eu,d7];refine⟨fun h=>by simp at h,fun _=>⟨⟨by omega,by omega,by omega⟩,?_⟩⟩;rw[nJ];refine U.for (i0:=0) al.length (fun i t=>t.1=(List.range al.length).map fun j=>nt al j i) rfl ?_ (eX _) ?_ ?_
 ·apply jN;intro k;simp[nt,qj];split<;>simp_all
 ·rintro i ⟨out,_⟩ _ hi aJ;simp only at aJ;simp only[U.dk,U.dm,axT c4 hc dn hi ag,U.ar];refine⟨fun _=>?_,fun aH=>by simp at aH;omega⟩;have rK:=axS al i;refine U.mono (P:=fun q=>q.1=(List.range al.length).map fun j=>nt al j (i+1)) ?_ ?_
  ·refine U.for (i0:=0) (qW al i).length (fun k t=>t.2.1=qW al i/\t.1=(List.range al.length).map fun j=>nt al j i++(if(j:Int)∈(qW al i).take k then[(i:Int)] else[])) rfl ?_ (eX _) ?_ ?_
   ·refine⟨rfl,?_⟩;rw[aJ];simp
   ·rintro k ⟨o,r,_⟩ _ ae ⟨hr,jY⟩;simp only at hr jY;subst hr;obtain⟨j,ao,o8,_⟩:=asN (dy ae);have Ht:o.length=al.length:=(by rw[jY];simp);have Bl:j<o.length:=(by omega);have pa:(j:Int)∉(qW al i).take k:=fun ak=>by
     obtain⟨m,sW,mQ⟩:=jO.1 ak;simp only[eW] at sW;simp only[Fy] at mQ;have:=(i7.1 (axR al i)) m k (by omega) ae (by omega);omega
    have aac:o[j]=nt al j i:=(by have:o[j]?=some (nt al j i):=(by rw[jY,gB,vt (by omega)];simp only[hC];rw[if_neg pa,oM]);rw[cr Bl] at this;exact fH this);have mO:=X2 al j i;simp only[U.dk,U.dm,U.uH,U.t9,U.ar,U.yR,d7,ao,xN,Bool.and_self,U.wW];refine⟨fun _=>⟨⟨by omega,ae⟩,ae,⟨by omega,Bl⟩,Bl,?_,⟨by omega,Bl⟩,fun _=>⟨Bl,Bl,hh (by omega),trivial,?_⟩,fun h=>by cases h⟩,fun aH=>by simp at aH;omega⟩
    ·rw[aac];simp;omega
    ·apply jN;intro u;rw[xJ];by_cases aR:j=u
     ·subst aR;rw[if_pos rfl,if_pos Bl,gB,vt (show j<al.length by omega)];simp only[hC];rw[aac,if_pos];rw[<-r6 ae,ao];simp
     ·rw[if_neg aR,jY,gB,gB];rcases ct u al.length with h|h
      ·rw[vt h];simp only[hC];congr 2;rw[<-r6 ae,ao];have:((u:Int)=(j:Int))↔False:=iff_of_false (by omega) id;simp only[fg,fh,this,or_false]
      ·rw[gW (by simpa using h)];rfl
   ·rintro⟨o,r,_⟩ ⟨hr,jY⟩;simp only at hr jY;subst hr;simp only[U.dk,U.ar];refine⟨fun aH=>by simp at aH,fun _=>?_⟩;rw[jY,vw];refine kK fun j _=>?_;rw[alv];congr 1;by_cases h:j<=i/\ng al j i
    ·rw[if_pos h,if_pos (abP.2 h)]
    ·rw[if_neg h,if_neg (fun ak=>h (abP.1 ak))]
  ·rintro⟨o,_⟩ jY;exact⟨hh (by omega),jY⟩
 ·rintro⟨out,_⟩ aJ;simp only at aJ;simp only[U.dk,U.ar];refine⟨fun aH=>by simp at aH,fun _=>?_⟩;rw[aJ];rfl
end
theorem Wh (l:List Int) (v:Int) (ai:l.length<4611686018427387904):Gj (l,v,())=some (decide (v∈l),()):=by
 rw[<-U.eq_iff];unfold Gj;simp only[U.dm];refine U.for (i0:=0) l.length (fun i _=>v∉l.take i) rfl (by simp) (eX _) ?_ ?_
 ·rintro i _ _ hi cU;simp only[U.dk,U.dm,U.ar,U.kf];refine⟨fun _=>⟨hi,fun aE=>?_,fun cX=>⟨hh (by omega),?_⟩⟩,fun aH=>by simp at aH;omega⟩
  ·have aE:l[i]=v:=(by simpa using aE);have:v∈l:=aE▸dy hi;simp[this]
  ·rw[<-r6 hi,fg];have cX:¬l[i]=v:=(by simpa using cX);rintro(h|h)
   ·exact cU h
   ·exact cX (fh.1 h).symm
 ·rintro _ cU;simp only[U.dk,U.ar];refine⟨fun aH=>by simp at aH,fun _=>?_⟩;rw[vw] at cU;simp[cU]
def gY (t:List (List Bool)) (v w:Nat):Bool:=(t.getD v []).getD w false
def pj (t:List (List Bool)) (v k:Nat):List Int:=((List.range k).filter fun w=>v !=w&&(gY t v w||gY t w v)).map fun(w:Nat)=>(w:Int)
def kQ (t:List (List Bool)):List (List Int):=(List.range t.length).map fun v=>pj t v t.length
theorem abx (t:List (List Bool)) (v k:Nat):(pj t v k).length<=k:=by unfold pj;rw[i6];exact d8 (lv _ _) (by simp)
theorem aby (t:List (List Bool)) (v k:Nat):pj t v (k+1)=pj t v k++(if(v !=k&&(gY t v k||gY t k v))=true then[(k:Int)] else[]):=by
 unfold pj;rw[re,rb,jm];congr 1;by_cases h:(v !=k&&(gY t v k||gY t k v))=true
 ·rw[if_pos h];simp only[nj,h,List.filter_nil];rfl
 ·rw[if_neg h];simp only[nj,List.filter_nil];rw[if_neg h];rfl
theorem C8 {t:List (List Bool)} {v w:Nat} (hv:v<t.length) (hw:w<t[v].length):gY t v w=t[v][w]:=by unfold gY;simp[List.getD,hv,hw]
theorem We (t:List (List Bool)) (ah:∀l∈t,l.length=t.length) (ag:t.length<=4294967296):GB (t,())=some ((kQ t,()),()):=by
 rw[<-U.eq_iff];unfold GB;have g9:gS=4294967296:=rfl;simp only[U.dm];refine U.mono (P:=fun q=>q.2.1.1=kQ t) ?_ ?_
 ·refine U.for (i0:=0) t.length (fun v s=>s.2.1.1=(List.range v).map fun v=>pj t v t.length) rfl rfl (eX _) ?_ ?_
  ·rintro v ⟨s,g,_⟩ _ hv aG;simp only at aG;simp only[U.dk,U.dm,U.ar];refine⟨fun _=>?_,fun aH=>by simp at aH;omega⟩;refine U.mono (P:=fun q=>q.2.1=g/\q.2.2.1=pj t v t.length) ?_ ?_
   ·refine U.for (i0:=0) t.length (fun w q=>q.2.1=g/\q.2.2.1=pj t v w) rfl ⟨rfl,rfl⟩ (eX _) ?_ ?_
    ·rintro w ⟨s',eC,l,_⟩ _ hw ⟨kz,ai⟩;simp only at ai kz;subst kz;have aBe:=ah _ (dy hv);have aBf:=ah _ (dy hw);simp only[U.dk (b:=decide _),U.dm (x:=Option.bind _ _)];refine⟨fun _=>?_,fun aH=>by simp at aH;omega⟩;rw[U.dm];refine U.mono (P:=fun q=>q=((v !=w&&(gY t v w||gY t w v)),s',eC,l,())) ?_ ?_
     ·simp only[U.dk,U.dm,U.ar,U.kf];rw[C8 hv (by omega),C8 hw (by omega)];refine⟨fun h=>⟨hv,by omega,fun R=>⟨hw,by omega,?_⟩,fun R=>?_⟩,fun h=>?_⟩
      ·have h:v≠w:=(by simp at h;omega);have R:t[v][w]=false:=(by simpa using R);simp[h,R]
      ·have h:v≠w:=(by simp at h;omega);have R:t[v][w]=true:=(by simpa using R);simp[h,R]
      ·have h:v=w:=(by simp at h;omega);simp[h]
     ·rintro q rfl;have yy:=abx t v w;simp only[U.dk,U.dm,U.ar,U.yR];refine⟨fun h=>⟨by rw[ai];simp;omega,hh (by omega),trivial,?_⟩,fun h=>⟨hh (by omega),trivial,?_⟩⟩
      ·rw[aby,if_pos h,ai]
      ·rw[aby,if_neg (by rw[h];simp),ai,oM]
    ·rintro⟨s',eC,l,_⟩ ⟨kz,ai⟩;simp only at ai kz;subst kz;simp only[U.dk,U.ar];exact⟨fun aH=>by simp at aH,fun _=>⟨trivial,ai⟩⟩
   ·rintro⟨s',eC,l,_⟩ ⟨kz,ai⟩;simp only at ai kz;subst kz;simp only[U.dm,U.ar,U.yR];refine⟨by rw[aG];simp;omega,hh (by omega),?_⟩;rw[aG,ai,re,jm];rfl
  ·rintro⟨s,g,_⟩ aG;simp only at aG;simp only[U.dk,U.ar];exact⟨fun aH=>by simp at aH,fun _=>aG⟩
 ·rintro⟨s,⟨g,_⟩,_⟩ aG;simp only at aG;simp only[U.ar];rw[aG]
theorem TH {t:List (List Bool)} {v k w:Nat}:(w:Int)∈pj t v k↔w<k/\v≠w/\(gY t v w||gY t w v)=true:=by
 unfold pj;simp only[dz,iv,j9,bW,bne_iff_ne];constructor
 ·rintro⟨a,⟨J,R⟩,ac⟩;have:a=w:=(by omega);subst this;exact⟨J,R⟩
 ·exact fun⟨J,R⟩=>⟨w,⟨J,R⟩,rfl⟩
theorem Y2 (t:List (List Bool)):gg (kQ t):=by
 have ai:(kQ t).length=t.length:=(by simp[kQ]);have aG:∀v,(h:v<(kQ t).length)->(kQ t)[v]=pj t v t.length:=fun v h=>(by simp[kQ]);refine⟨fun v h=>?_,fun v h=>?_,fun v h w hw ak=>?_⟩
 ·rw[aG v h,ai];refine⟨OX _ _,fun x ab=>?_⟩;unfold pj at ab;simp only[dz,iv,j9] at ab;obtain⟨a,⟨J,_⟩,rfl⟩:=ab;omega
 ·rw[aG v h,TH];exact fun ay=>ay.2.1 rfl
 ·rw[aG v h,TH] at ak;rw[aG w hw,TH];exact⟨by omega,ak.2.1.symm,by rw[Bool.or_comm];exact ak.2.2⟩
theorem anP (t:List (List Bool)):(kQ t).length=t.length:=by simp[kQ]
theorem anQ (t:List (List Bool)):∀l∈kQ t,l.length<=t.length:=by intro l ai;unfold kQ at ai;simp only[dz,j9] at ai;obtain⟨v,_,rfl⟩:=ai;exact abx _ _ _
theorem mK {α:Type} {xs:List α} {i:Nat} {y:α} (h:xs[i]?=some y):bf xs (i:Int)=some y:=by unfold bf;rw[if_pos (by omega),d7,h]
theorem PG (al:List (List Int)):gg al↔∀v,(h:v<al.length)->al[v].Pairwise (· < ·)/\∀k,(ae:k<al[v].length)->(0<=al[v][k]/\al[v][k]<al.length)/\al[v][k]≠(v:Int)/\(v:Int)∈al.getD (al[v][k]).toNat []:=by
 constructor
 ·rintro⟨J,R,ac⟩ v hv;refine⟨(J v hv).1,fun k ae=>?_⟩;have hr:=(J v hv).2 _ (dy ae);refine⟨hr,fun e=>R v hv (e▸dy ae),?_⟩;have hw:(al[v][k]).toNat<al.length:=(by omega);have:=ac v hv _ hw (by rw[Int.toNat_of_nonneg hr.1];exact dy ae);rw[List.getD,cr hw];exact this
 ·intro h;refine⟨fun v hv=>⟨(h v hv).1,fun x ab=>?_⟩,fun v hv ak=>?_,fun v hv w hw ak=>?_⟩
  ·obtain⟨k,ae,rfl⟩:=jO.1 ab;exact((h v hv).2 k ae).1
  ·obtain⟨k,ae,e⟩:=jO.1 ak;exact((h v hv).2 k ae).2.1 e
  ·obtain⟨k,ae,e⟩:=jO.1 ak;have:=((h v hv).2 k ae).2.2;rw[e,d7,List.getD,cr hw] at this;exact this
theorem UV (al:List (List Int)) (hc:∀l∈al,l.length<4611686018427387904):Dv ((al,()),())=some (kc al,()):=by
 classical
 rw[<-U.eq_iff];unfold Dv;simp only[U.dk,U.ar,U.dm];refine⟨fun h=>?_,fun h=>?_⟩
 ·have:200<al.length:=(by simp at h;omega);simp[kc,this]
 have ag:¬200<al.length:=(by simp at h;omega);refine U.mono (P:=fun q=>(q=.inl ()/\gg al)\/(q=.inr (1,())/\¬gg al)) ?_ ?_
 rotate_left
 ·rintro _ (⟨rfl,hv⟩|⟨rfl,hv⟩)
  ·simp only[U.ar];simp[kc,ag,hv]
  ·simp only[U.ar];simp[kc,ag,hv]
 refine U.for (i0:=0) al.length (fun i _=>∀v,(h:v<al.length)->v<i->al[v].Pairwise (· < ·)/\∀k,(ae:k<al[v].length)->(0<=al[v][k]/\al[v][k]<al.length)/\al[v][k]≠(v:Int)/\(v:Int)∈al.getD (al[v][k]).toNat []) rfl (fun v _ h=>by omega) (eX _) ?_ ?_
 ·rintro v _ _ hv cU;have pX:=hc _ (dy hv);simp only[U.dk,U.ar,U.dm,U.kf];refine⟨fun _=>⟨hv,?_⟩,fun aH=>by simp at aH;omega⟩;rw[afR _ pX];simp only[U.ar];refine⟨fun aC=>.inr ⟨trivial,fun c4=>?_⟩,fun aC=>?_⟩
  ·have:=(c4.asc v hv).1;simp[this] at aC
  have aC:al[v].Pairwise (· < ·):=(by simpa using aC);refine U.mono (P:=fun q=>(q=.inl ()/\∀k,(ae:k<al[v].length)->(0<=al[v][k]/\al[v][k]<al.length)/\al[v][k]≠(v:Int)/\(v:Int)∈al.getD (al[v][k]).toNat [])\/(q=.inr (.inr (.inr (1,())))/\¬gg al)) ?_ ?_
  rotate_left
  ·rintro _ (⟨rfl,aj⟩|⟨rfl,aj⟩)
   ·simp only[U.ar];refine⟨hh (by omega),fun u aR aBA=>?_⟩;rcases ct u v with h|h
    ·exact cU u aR h
    ·obtain rfl:u=v:=(by omega);exact⟨aC,aj⟩
   ·simp only[U.ar];exact .inr ⟨trivial,aj⟩
  refine U.for (i0:=0) al[v].length (fun i _=>∀k,(ae:k<al[v].length)->k<i->(0<=al[v][k]/\al[v][k]<al.length)/\al[v][k]≠(v:Int)/\(v:Int)∈al.getD (al[v][k]).toNat []) rfl (fun v _ h=>by omega) (eX _) ?_ ?_
  ·rintro k _ _ ae Bc;have ot:¬((0<=al[v][k]/\al[v][k]<al.length)/\al[v][k]≠(v:Int)/\(v:Int)∈al.getD (al[v][k]).toNat [])->¬gg al:=fun h c4=>h (((PG al).1 c4 v hv).2 k ae);simp only[U.dk,U.ar,U.dm,U.kf];refine⟨hv,fun _=>⟨hv,ae,fun J=>⟨fun R=>⟨fun ac=>?_,fun ac=>?_⟩,fun R=>?_⟩,fun J=>?_⟩,fun aH=>by simp at aH;omega⟩
   ·have hr:0<=al[v][k]/\al[v][k]<(al.length:Int):=(by simp at J R;omega);have cX:al[v][k]≠(v:Int):=(by simpa using ac);rw[U.Za];refine⟨by omega,hr.1,?_⟩;rw[Wh _ _ (hc _ (dy _))];have aG:al.getD (al[v][k]).toNat []=al[(al[v][k]).toNat]'(by omega):=by
     rw[List.getD,cr (by omega)];rfl
    simp only[U.ar];refine⟨fun aL=>.inr ⟨trivial,ot ?_⟩,fun aL=>⟨hh (by omega),fun c0 k9 Bm=>?_⟩⟩
    ·rintro⟨_,_,ak⟩;rw[aG] at ak;simp[ak] at aL
    ·rcases ct c0 k with h|h
     ·exact Bc c0 k9 h
     ·obtain rfl:c0=k:=(by omega);refine⟨hr,cX,?_⟩;rw[aG];simpa using aL
   ·refine .inr ⟨trivial,ot (fun ay=>ay.2.1 ?_)⟩;simpa using ac
   ·refine .inr ⟨trivial,ot (fun ay=>?_)⟩;simp at R;omega
   ·refine .inr ⟨trivial,ot (fun ay=>?_)⟩;simp at J;omega
  ·rintro _ Bc;simp only[U.dk,U.ar,U.dm,U.kf];exact⟨hv,fun aH=>by simp at aH,fun _=>.inl ⟨trivial,fun k ae=>Bc k ae ae⟩⟩
 ·rintro _ cU;simp only[U.dk,U.ar];exact⟨fun aH=>by simp at aH,fun _=>.inl ⟨trivial,(PG al).2 fun v hv=>cU v hv hv⟩⟩
theorem ajM (l:List Int) (n:Int) (ai:l.length<4611686018427387904):L0 (l,n,())=some (decide (∀x∈l,0<=x/\x<n),()):=by
 rw[<-U.eq_iff];unfold L0;simp only[U.dm];refine U.mono (P:=fun q=>(q=.inl ()/\∀x∈l,0<=x/\x<n)\/(q=.inr (false,())/\¬∀x∈l,0<=x/\x<n)) ?_ ?_
 ·refine U.for (i0:=0) l.length (fun i _=>∀k,(h:k<l.length)->k<i->0<=l[k]/\l[k]<n) rfl (fun k _ h=>by omega) (eX _) ?_ ?_
  ·rintro i _ _ hi cU;have ot:¬(0<=l[i]/\l[i]<n)->¬∀x∈l,0<=x/\x<n:=fun h ay=>h (ay _ (dy hi));simp only[U.dk,U.dm,U.ar,U.kf];refine⟨fun _=>⟨hi,fun J=>⟨hi,fun R=>.inr ⟨trivial,ot (fun h=>?_)⟩,fun R=>⟨hh (by omega),fun k ae pV=>?_⟩⟩,fun J=>.inr ⟨trivial,ot (fun h=>?_)⟩⟩,fun aH=>by simp at aH;omega⟩
   ·simp at R;omega
   ·rcases ct k i with h|h
    ·exact cU k ae h
    ·obtain rfl:k=i:=(by omega);simp at J R;omega
   ·simp at J;omega
  ·rintro _ cU;simp only[U.dk,U.ar];refine⟨fun aH=>by simp at aH,fun _=>.inl ⟨trivial,fun x ab=>?_⟩⟩;obtain⟨k,ae,rfl⟩:=jO.1 ab;exact cU k ae ae
 ·rintro _ (⟨rfl,h⟩|⟨rfl,h⟩)
  ·simp only[U.ar];rw[decide_eq_true h]
  ·simp only[U.ar];rw[decide_eq_false h]
theorem aci {l:List Int}:l.Nodup↔∀i,(h:i<l.length)->l[i]∉l.take i:=by
 unfold List.Nodup;rw[i7];constructor
 ·intro h i hi ak;obtain⟨k,ae,e⟩:=jO.1 ak;simp only[eW] at ae;simp only[Fy] at e;exact h k i (by omega) hi (by omega) e
 ·intro h i j hi ao dJ e;exact h j ao (jO.2 ⟨i,by simp;omega,by simp[e]⟩)
theorem ajS (l:List Int) (ai:l.length<4611686018427387904):L1 (l,())=some (decide (¬l.Nodup),()):=by
 rw[<-U.eq_iff];unfold L1;simp only[U.dm];refine U.mono (P:=fun q=>(q=.inl ()/\l.Nodup)\/(q=.inr (true,())/\¬l.Nodup)) ?_ ?_
 ·refine U.for (i0:=0) l.length (fun i _=>∀k,(h:k<l.length)->k<i->l[k]∉l.take k) rfl (fun k _ h=>by omega) (eX _) ?_ ?_
  ·rintro i _ _ hi cU;have aA:jh (i:Int)=some i:=(by unfold jh;rw[if_pos (by omega),d7]);have aX:jG 0 i l.length=some ():=(by unfold jG;rw[if_pos (by omega)]);simp only[U.dk,U.dm,U.ar,U.kf,aA,aX,bq,hC,qh];refine⟨fun _=>⟨hi,?_⟩,fun aH=>by simp at aH;omega⟩;rw[Wh _ _ (by rw[eW];omega)];simp only[U.ar];refine⟨fun h=>.inr ⟨trivial,fun aP=>?_⟩,fun h=>⟨hh (by omega),fun k ae pV=>?_⟩⟩
   ·exact aci.1 aP i hi (of_decide_eq_true h)
   ·rcases ct k i with R|R
    ·exact cU k ae R
    ·obtain rfl:k=i:=(by omega);exact of_decide_eq_false h
  ·rintro _ cU;simp only[U.dk,U.ar];exact⟨fun aH=>by simp at aH,fun _=>.inl ⟨trivial,aci.2 fun k ae=>cU k ae ae⟩⟩
 ·rintro _ (⟨rfl,h⟩|⟨rfl,h⟩)
  ·simp only[U.ar];rw[decide_eq_false (fun ay=>ay h)]
  ·simp only[U.ar];rw[decide_eq_true h]
def r5 (al:List (List Int)):List (List Bool):=(List.range al.length).map fun v=>(List.range al.length).map fun(w:Nat)=>decide ((w:Int)∈al.getD v [])
theorem Vu (al:List (List Int)):(r5 al).length=al.length:=by simp[r5]
theorem aeX {al:List (List Int)} {v:Nat} (hv:v<al.length):(r5 al)[v]?=some ((List.range al.length).map fun(w:Nat)=>decide ((w:Int)∈al[v])):=by simp[r5,hv,List.getD]
theorem Wx {al:List (List Int)} (hc:∀l∈al,l.length<4611686018427387904) (ag:al.length<=200) (hr:∀v,(h:v<al.length)->∀x∈al[v],0<=x/\x<(al.length:Int)):GD ((al,()),())=some (r5 al,()):=by
 rw[<-U.eq_iff];unfold GD;have g9:gS=4294967296:=rfl;simp only[U.dm];refine U.mono (P:=fun q=>q.1=r5 al) ?_ (by rintro⟨o,_⟩ h;simp only at h;simp only[U.ar];rw[h]);refine U.for (i0:=0) al.length (fun i t=>t.1=(r5 al).take i) rfl (by simp) (eX _) ?_ ?_
 ·rintro v ⟨out,_⟩ _ hv aJ;simp only at aJ;have pX:=hc _ (dy hv);simp only[U.dk,U.dm,U.Eu,d7];refine⟨fun _=>⟨⟨by omega,by omega,by omega⟩,?_⟩,fun aH=>by simp at aH;omega⟩;refine U.mono (P:=fun q=>q.1=out/\q.2.1=(List.range al.length).map fun(w:Nat)=>decide ((w:Int)∈al[v])) ?_ ?_
  ·refine U.for (i0:=0) al[v].length (fun k t=>t.1=out/\t.2.1=(List.range al.length).map fun(w:Nat)=>decide ((w:Int)∈al[v].take k)) rfl ⟨rfl,?_⟩ (eX _) ?_ ?_
   ·apply jN;intro k;simp[qj];split<;>simp_all
   ·rintro k ⟨o,row,_⟩ _ ae ⟨J,R⟩;simp only at J R;have ab:=hr v hv _ (dy ae);have rK:row.length=al.length:=(by rw[R];simp);simp only[U.dk,U.dm,U.kf,U.uH,U.t9,U.ar];refine⟨hv,fun _=>⟨hv,ae,⟨ab.1,by omega⟩,by omega,hh (by omega),J,?_⟩,fun aH=>by simp at aH;omega⟩;apply jN;intro u;rw[xJ,R,gB,gB];rcases ct u al.length with h|h
    ·rw[vt h];simp only[hC,<-r6 ae,fg,fh,i6,zW];by_cases aR:(al[v][k]).toNat=u
     ·rw[if_pos aR,if_pos (by omega)];have:(u:Int)=al[v][k]:=(by omega);simp[this]
     ·rw[if_neg aR];have:¬(u:Int)=al[v][k]:=(by omega);simp[this]
    ·rw[if_neg (by omega),gW (by simpa using h)];rfl
   ·rintro⟨o,row,_⟩ ⟨J,R⟩;simp only at J R;simp only[U.dk,U.dm,U.kf,U.ar];refine⟨hv,fun aH=>by simp at aH,fun _=>⟨J,?_⟩⟩;rw[R,vw]
  ·rintro⟨o,row,_⟩ ⟨J,R⟩;simp only at J R;subst J;simp only[U.dm,U.yR,U.ar];refine⟨by rw[aJ];simp;omega,hh (by omega),?_⟩;rw[aJ,R];have:=aeX hv;rw[lY,this];rfl
 ·rintro⟨out,_⟩ aJ;simp only at aJ;simp only[U.dk,U.ar];refine⟨fun aH=>by simp at aH,fun _=>?_⟩;rw[aJ,<-Vu,vw]
theorem Yz (n:Nat) (ag:n<=4294967296):GF ((n:Int),())=some (List.replicate n (List.replicate n false),()):=by
 rw[<-U.eq_iff];unfold GF;have g9:gS=4294967296:=rfl;simp only[U.dm];refine U.mono (P:=fun q=>q.1=List.replicate n (List.replicate n false)) ?_ (by rintro⟨o,_⟩ h;simp only at h;simp only[U.ar];rw[h]);refine U.for (i0:=0) n (fun i s=>s.1=List.replicate i (List.replicate n false)) rfl rfl (eX _) ?_ ?_
 ·rintro i ⟨t,_⟩ _ hi ah;simp only at ah;simp only[U.dk,U.dm,U.ar,U.Eu,U.yR,d7];refine⟨fun _=>⟨⟨by omega,by omega,by omega⟩,by rw[ah];simp;omega,hh (by omega),?_⟩,fun aH=>by simp at aH;omega⟩;rw[ah,List.replicate_succ']
 ·rintro⟨t,_⟩ ah;simp only[U.dk,U.ar];exact⟨fun aH=>by simp at aH,fun _=>ah⟩
section
def bz {α:Type} (n:Nat) (f:Nat->α):List α:=(List.range n).map f
def fO {α:Type} (f:Nat->α) (i:Nat) (v:α):Nat->α:=fun j=>if j=i then v else f j
section
variable {α aT sh:Type}
theorem nZ (f:Nat->α) (i:Nat) (v:α):fO f i v i=v:=if_pos rfl
theorem nY (f:Nat->α) {i j:Nat} (v:α) (h:j≠i):fO f i v j=f j:=if_neg h
theorem dP (n:Nat) (f:Nat->α):(bz n f).length=n:=by simp[bz]
theorem A2 (n:Nat) (f:Nat->α) (i:Nat):(bz n f)[i]?=if i<n then some (f i) else none:=by
 unfold bz;rw[gB];rcases ct i n with h|h
 ·rw[vt h,if_pos h];rfl
 ·rw[gW (by simpa using h),if_neg (by omega)];rfl
theorem DA {n:Nat} {f:Nat->α} {i:Nat} (h:i<n):(bz n f)[i]?=some (f i):=by rw[A2,if_pos h]
theorem l9 {n:Nat} {f:Nat->α} {i:Nat} (h:i<(bz n f).length):(bz n f)[i]=f i:=by simp[bz]
theorem fl {n:Nat} {f g:Nat->α} (h:∀i,i<n->f i=g i):bz n f=bz n g:=kK fun i hi=>h i (j9.1 hi)
theorem YL (f:Nat->α):bz 0 f=[]:=rfl
theorem yi (n:Nat) (f:Nat->α):bz (n+1) f=bz n f++[f n]:=by simp[bz,re]
theorem og (n:Nat) (x:α):List.replicate n x=bz n fun _=>x:=by apply jN;intro i;rw[qj,A2]
theorem kv {n:Nat} {f:Nat->α} {i:Nat} (v:α):(bz n f).set i v=bz n (fO f i v):=by
 apply jN;intro j;rw[xJ,A2,A2,dP];unfold fO;by_cases h:i=j
 ·subst h;simp
 ·have a7:¬j=i:=fun e=>h (Eq.symm e);simp only[if_neg h,if_neg a7]
theorem ant (l:List α) (f:Nat->α) (h:∀i,(hi:i<l.length)->l[i]=f i):l=bz l.length f:=by
 apply jN;intro i;rw[A2];split
 ·rename_i hi;rw[cr hi,h i hi]
 ·rename_i hi;exact gW (by omega)
theorem anu (n k:Nat) (f:Nat->α) (h:k<=n):(bz n f).take k=bz k f:=by
 apply jN;intro i;rw[zU,A2,A2];by_cases hi:i<k
 ·rw[if_pos hi,if_pos hi,if_pos (by omega)]
 ·rw[if_neg hi,if_neg hi]
theorem hb {n i:Nat} (h:i<n):cH n (i:Int)=some i:=by unfold cH;rw[if_pos ⟨by omega,by simpa using h⟩];simp
theorem vD {xs:List α} {k:Nat} {v:α} {f:α->Option aT} (h:xs[k]?=some v):cb xs k f=f v:=by unfold cb;rw[h]
theorem iz {n k:Nat} {f:Nat->α} {g:α->Option aT} (h:k<n):cb (bz n f) k g=g (f k):=vD (DA h)
theorem Y9 {n k:Nat} {f:Nat->α} (h:k<n):bf (bz n f) (k:Int)=some (f k):=mK (DA h)
theorem fo {n:Nat} (h:n<=4294967296):di n=some ():=if_pos h
theorem jZ {l:Nat} (h:l<=4294967296):fJ (l:Int) (l:Int)=some l:=by unfold fJ;rw[if_pos ⟨by omega,by omega,by have:gS=4294967296:=rfl;omega⟩];simp
theorem EB {i:Nat}:jh (i:Int)=some i:=by unfold jh;rw[if_pos (by omega)];simp
theorem Ie {a b n:Nat} (h:a<=b/\b<=n):jG a b n=some ():=if_pos h
theorem adt {n:Nat} (h:0<n):IV n=some ():=rfl
theorem eY (a b:Int):(a==b)=decide (a=b):=by by_cases h:a=b<;>simp[h]
theorem ee (a b:Int):(a !=b)=!decide (a=b):=by by_cases h:a=b<;>simp[h]
theorem a8 {p:Prop} [Decidable p] (h:p):decide p=true:=decide_eq_true h
theorem a1 {p:Prop} [Decidable p] (h:¬p):decide p=false:=decide_eq_false h
theorem cT {b:Bool} {x y:α} (h:b=true):(bif b then x else y)=x:=by rw[h];rfl
theorem c1 {b:Bool} {x y:α} (h:b=false):(bif b then x else y)=y:=by rw[h];rfl
theorem cC {p:Prop} [Decidable p] {x y:α}:(bif decide p then x else y)=if p then x else y:=by by_cases h:p<;>simp[h]
theorem X5 {p:Prop} [Decidable p] {x y:α}:(bif decide p==true then x else y)=if p then x else y:=by by_cases h:p<;>simp[h]
theorem X6 {p:Prop} [Decidable p] {x y:α}:(bif decide p==false then x else y)=if p then y else x:=by by_cases h:p<;>simp[h]
theorem azZ {n:Nat} (h:n<9223372036854775808):IntKind.i64.wrap (n:Int)=(n:Int):=wrap64 (by omega) (by omega)
theorem afF {a:Nat} (aa:1<=a) (h:a<9223372036854775808):IntKind.i64.wrap ((a:Int)-1)=((a-1:Nat):Int):=by rw[wrap64 (by omega) (by omega)];omega
theorem zC {a:Nat} (h:a+1<9223372036854775808):IntKind.i64.wrap ((a:Int)+1)=((a+1:Nat):Int):=by rw[wrap64 (by omega) (by omega)];omega
end
theorem U.of_eq {α:Type} {x:Option α} {y:α} {Q:α->Prop} (h:x=some y) (aj:Q y):U x Q:=⟨y,h,aj⟩
theorem U.bJ {α aT:Type} {x:Option α} {f:α->Option aT} {P:α->Prop} {Q:aT->Prop} (h:U x P) (aH:∀y,P y->U (f y) Q):U (x.bind f) Q:=
 U.dm.2 (h.mono aH)
theorem U.ite {α:Type} {p:Prop} [Decidable p] {x y:Option α} {Q:α->Prop} (J:p->U x Q) (R:¬p->U y Q):U (if p then x else y) Q:=by
 by_cases h:p
 ·rw[if_pos h];exact J h
 ·rw[if_neg h];exact R h
theorem aI {α aT:Type} {x:Option α} {k:α->Option aT} {y:α} {r:Option aT} (h:x=some y) (R:k y=r):x.bind k=r:=by rw[h];exact R
theorem Ih {τ ρ:Type} {f:Int×τ->Option ((Int×τ)⊕ρ)} {r:ρ} {HM:Int} {t0:τ} (n:Nat) (I:Nat->τ) (i0:Nat) (ao:HM=(i0:Int)) (ah:t0=I i0) (hi:i0<=n) (wu:∀i,i0<=i->i<n->f ((i:Int),I i)=some (.inl (((i+1:Nat):Int),I (i+1)))) (wg:f ((n:Int),I n)=some (.inr r)):loop f (HM,t0)=some r:=by
 subst ao ah;rw[<-U.eq_iff];refine U.for n (fun i t=>t=I i) rfl rfl hi ?_ ?_
 ·rintro i _ aV J rfl;rw[wu i aV J];exact U.ar.2 ⟨rfl,rfl⟩
 ·rintro _ rfl;rw[wg];exact U.ar.2 rfl
theorem arT {f:Int×Unit->Option aCb} (n:Nat) (P:Nat->Prop) (wu:∀i,i<n->f ((i:Int),())=some (open Classical in if P i then .inl (((i+1:Nat):Int),()) else .inr (.inr ((i:Int),())))) (wg:f ((n:Int),())=some (.inr (.inl ()))):U (loop f (0,())) (fun q=>match q with|.inl _=>∀i,i<n->P i|.inr r=>0<=r.1/\¬∀i,i<n->P i):=by
 classical
 refine U.for n (fun i _=>∀j,j<i->P j) (i0:=0) rfl (fun j h=>by omega) (eX _) ?_ ?_
 ·rintro i ⟨⟩ _ J cU;rw[wu i J];by_cases aw:P i
  ·rw[if_pos aw];refine U.ar.2 ⟨rfl,fun j ac=>?_⟩;rcases ct j i with h|h
   ·exact cU j h
   ·obtain rfl:j=i:=(by omega);exact aw
  ·rw[if_neg aw];exact U.ar.2 ⟨by show(0:Int)<=(i:Int);omega,fun h=>aw (h i J)⟩
 ·rintro⟨⟩ cU;rw[wg];exact U.ar.2 cU
end
theorem VM (x:Int):IntKind.u32.wrap x=x %4294967296:=by unfold IntKind.wrap;exact if_neg (show¬(false&&decide (x %4294967296>=(2147483648:Int)))=true by simp)
theorem JH (x:Int):IntKind.u64.wrap x=x %18446744073709551616:=by unfold IntKind.wrap;exact if_neg (show¬(false&&decide (x %18446744073709551616>=(9223372036854775808:Int)))=true by simp)
theorem Pm {x:Int} (J:0<=x) (R:x<18446744073709551616):IntKind.u64.wrap x=x:=by rw[JH];omega
theorem VN {x:Int} (J:0<=x) (R:x<4294967296):IntKind.u32.wrap x=x:=by rw[VM];omega
theorem KC {x:Nat} (ab:x<18446744073709551616):(BitVec.ofInt 64 (x:Int)).toNat=x:=by rw[BitVec.ofInt_natCast,BitVec.toNat_ofNat];exact Nat.mod_eq_of_lt ab
theorem KB {x:Nat} (ab:x<4294967296):(BitVec.ofInt 32 (x:Int)).toNat=x:=by rw[BitVec.ofInt_natCast,BitVec.toNat_ofNat];exact Nat.mod_eq_of_lt ab
theorem WX {x y:Nat} (ab:x<18446744073709551616) (aB:y<18446744073709551616):ed .u64 (x:Int) (y:Int)=((x&&&y:Nat):Int):=by have h:((BitVec.ofInt 64 (x:Int))&&&(BitVec.ofInt 64 (y:Int))).toNat=x&&&y:=(by rw[BitVec.toNat_and,KC ab,KC aB]);have R:x&&&y<=x:=Nat.and_le_left;unfold ed;rw[show IntKind.u64.bits=64 from rfl,h];exact Pm (by omega) (by omega)
theorem WW {x y:Nat} (ab:x<4294967296) (aB:y<4294967296):ed .u32 (x:Int) (y:Int)=((x&&&y:Nat):Int):=by have h:((BitVec.ofInt 32 (x:Int))&&&(BitVec.ofInt 32 (y:Int))).toNat=x&&&y:=(by rw[BitVec.toNat_and,KB ab,KB aB]);have R:x&&&y<=x:=Nat.and_le_left;unfold ed;rw[show IntKind.u32.bits=32 from rfl,h];exact VN (by omega) (by omega)
theorem avS {x y:Nat} (ab:x<18446744073709551616) (aB:y<18446744073709551616):fF .u64 (x:Int) (y:Int)=((x|||y:Nat):Int):=by have h:(BitVec.ofInt 64 (x:Int)|||BitVec.ofInt 64 (y:Int)).toNat=x|||y:=(by rw[BitVec.toNat_or,KC ab,KC aB]);have R:x|||y<2^64:=Nat.or_lt_two_pow ab aB;unfold fF;rw[show IntKind.u64.bits=64 from rfl,h];exact Pm (by omega) (by omega)
theorem avR {x y:Nat} (ab:x<4294967296) (aB:y<4294967296):fF .u32 (x:Int) (y:Int)=((x|||y:Nat):Int):=by have h:(BitVec.ofInt 32 (x:Int)|||BitVec.ofInt 32 (y:Int)).toNat=x|||y:=(by rw[BitVec.toNat_or,KB ab,KB aB]);have R:x|||y<2^32:=Nat.or_lt_two_pow ab aB;unfold fF;rw[show IntKind.u32.bits=32 from rfl,h];exact VN (by omega) (by omega)
theorem xT (k:Nat) {x:Int} (J:0<=x) (R:x<18446744073709551616) (m:Int) (ae:k<=64) (ak:m=2^k-1):ed .u64 x m=x %2^k:=by obtain⟨n,rfl⟩:=fL J;have aw:0<2^k:=kM k;have ac:m=((2^k-1:Nat):Int):=(by rw[ak,Int.natCast_sub aw];simp);have aL:2^k<=2^64:=tW (by decide) ae;rw[ac,WX (by omega) (by omega),Nat.and_two_pow_sub_one_eq_mod];simp
theorem and_low32 {x:Int} (J:0<=x) (R:x<18446744073709551616):ed .u64 x 4294967295=x %4294967296:=xT 32 J R _ (by decide) (by decide)
theorem qe (x:Int):d6 .u64 x 32=some (x/4294967296):=by have:d6 .u64 x 32=some (x.fdiv 4294967296):=rfl;rw[this,J3 _ (by decide)]
theorem q1 {x y:Int} (aB:0<=y) (R:y<=64):iq .u64 x y=some ((x*2^y.toNat) %18446744073709551616):=by unfold iq;rw[if_pos aB,JH,show IntKind.u64.bits=64 from rfl,hU (by omega)]
theorem zt {x y:Int} (aB:0<=y) (R:y<=64):d6 .u64 x y=some (x/2^y.toNat):=by unfold d6;rw[if_pos aB,show IntKind.u64.bits=64 from rfl,hU (by omega),J3 _ (by exact Int.pow_nonneg (by decide))]
theorem WZ (k:Nat) {a b:Nat} (aC:a<2^k):a|||(b*2^k)=a+b*2^k:=by rw[Nat.add_comm,Nat.or_comm,pJ,Nat.two_pow_add_eq_or_of_lt aC]
theorem p4 (k:Nat) {x y:Int} (J:0<=x) (R:x<2^k) (ac:0<=y) (aL:x<18446744073709551616) (aY:y<18446744073709551616) (aP:y %2^k=0):fF .u64 x y=x+y:=by obtain⟨n,rfl⟩:=fL J;obtain⟨m,rfl⟩:=fL ac;have ag:n<2^k:=(by have:((n:Nat):Int)<((2^k:Nat):Int):=(by simpa using R);omega);have ak:m %2^k=0:=(by have:((m %2^k:Nat):Int)=0:=(by simpa using aP);omega);rw[avS (by omega) (by omega)];have bG:m=(m/2^k)*2^k:=(by have:=vx m (2^k);rw[ak,pJ] at this;omega);rw[bG,WZ k ag];simp
def aU (m:Nat):Nat:=if m=0 then 0 else m.log2+1
theorem es {m k:Nat}:aU m<=k↔m<2^k:=by
 unfold aU;split
 ·rename_i h;subst h;simp;exact kM k
 ·rename_i h;rw[<-Nat.log2_lt h];omega
theorem Ai {m k:Nat}:k<aU m↔2^k<=m:=by rw[<-Nat.not_le,es,Nat.not_lt]
theorem adl (a b:Nat) (h:a<=b):2^a<=2^b:=tW (by decide) h
theorem Om (a b:Nat) (h:a<b):2^a<2^b:=Nat.pow_lt_pow_right (by decide) h
theorem lA {a b:Nat} (h:a<=b):aU a<=aU b:=by rw[es];have:=es.1 (bU (aU b));omega
theorem Aj {a b k l:Nat} (J:aU a<=k) (R:aU b<=l):aU (a*b)<=k+l:=by rw[es,jo];exact Nat.mul_lt_mul'' (es.1 J) (es.1 R)
theorem ab3 {a b i B:Nat} (J:a<=i*B) (R:b<B):a+b<=(i+1)*B:=by rw[ie,lx];omega
theorem Xw (k:Nat) {x y:Nat} (ab:aU x<=k) (aB:aU y<=k):aU (x+y)<=k+1:=by rw[es] at*;rw[mC];omega
theorem ub {m:Nat} (h:0<m):0<aU m:=Ai.2 h
theorem akC:aU 0=0:=rfl
theorem Xx {m k:Nat} (J:2^k<=m) (R:m<2^(k+1)):aU m=k+1:=by have:=Ai.2 J;have:=es.2 R;omega
theorem C9 {m:Nat} (h:0<m):2^(aU m-1)<=m/\m<2^aU m:=
 ⟨Ai.1 (by have:=ub h;omega),es.1 (bU _)⟩
theorem vF {m:Nat} (h:0<m) (k:Nat):aU (m*2^k)=aU m+k:=by
 obtain⟨J,R⟩:=C9 h;have aw:=kM k;have aa:=ub h;obtain⟨j,ao⟩:∃j,aU m=j+1:=⟨aU m-1,by omega⟩;rw[ao] at J R|-;rw[show j+1+k=(j+k)+1 by omega];refine Xx ?_ ?_
 ·rw[jo];exact jQ _ (by simpa using J)
 ·rw[show j+k+1=(j+1)+k by omega,jo];exact Nat.mul_lt_mul_of_pos_right R aw
theorem vG (m k:Nat):aU (m/2^k)=aU m-k:=by
 have aw:=kM k;apply Nat.le_antisymm
 ·rw[es,Nat.div_lt_iff_lt_mul aw,<-jo];exact es.1 (by omega)
 ·rcases ct k (aU m) with h|h
  ·have:aU m-k-1<aU (m/2^k):=by
    rw[Ai,Ka aw,<-jo];exact Ai.1 (by omega)
   omega
  ·omega
def Cr (neg:Bool) (c:Int) (IF:Bool) (mode:Int):Bool:=
 if mode=1 then neg else if mode=2 then !neg else if mode=3 then false else decide (0<c)||(decide (c=0)&&IF)
def l6 (m s:Nat) (more:Bool):Int:=
 if 2*(m %2^s)<2^s then-1 else if 2^s<2*(m %2^s) then 1 else if more then 1 else 0
def jv (neg:Bool) (m s:Nat) (more:Bool) (mode:Int):Nat:=
 if m %2^s=0/\more=false then m/2^s
 else if Cr neg (l6 m s more) (decide (m/2^s %2=1)) mode then m/2^s+1 else m/2^s
theorem TN (m k s:Nat):m %2^(k+s)=(m/2^k %2^s)*2^k+m %2^k:=by rw[jo,Nat.mod_mul,Nat.add_comm,pJ]
theorem Yh (m k s:Nat):m/2^(k+s)=m/2^k/2^s:=by rw[jo,Nat.div_div_eq_div_mul]
theorem alI (neg:Bool) (m k s:Nat) (more:Bool) (mode:Int) (hs:0<s):jv neg m (k+s) more mode=jv neg (m/2^k) s (more||decide (m %2^k≠0)) mode:=by
 have aw:=kM k;have ca:=Nat.mod_lt m aw;have sQ:¬(m %2^(k+s)=0/\more=false)->l6 m (k+s) more=l6 (m/2^k) s (more||decide (m %2^k≠0)):=by
  intro _;unfold l6;rw[TN,jo];obtain⟨t,rfl⟩:∃t,s=t+1:=⟨s-1,by omega⟩;rw[mC];generalize hr:m/2^k %(2^t*2)=r;generalize aj:m %2^k=q at ca|-;generalize g8:2^t=P;generalize cA:2^k=K at ca aw|-;rw[show K*(P*2)=2*(P*K) by grind,show 2*(r*K+q)=2*(r*K)+2*q by grind];rcases rf r P with h|h|h
  ·have J:(r+1)*K<=P*K:=jQ _ h;rw[ie] at J;have ch:2*(r*K)+2*q<2*(P*K):=(by omega);have c8:2*r<P*2:=(by omega);rw[if_pos ch,if_pos c8]
  ·subst h;have ch:¬2*(r*K)+2*q<2*(r*K):=(by omega);have c8:¬2*r<r*2:=(by omega);have a3:¬r*2<2*r:=(by omega);rw[if_neg ch,if_neg c8,if_neg a3];by_cases fY:q=0
   ·subst fY;have a4:¬2*(r*K)<2*(r*K)+2*0:=(by omega);rw[if_neg a4];simp
   ·have a4:2*(r*K)<2*(r*K)+2*q:=(by omega);rw[if_pos a4];simp[fY]
  ·have J:(P+1)*K<=r*K:=jQ _ h;rw[ie] at J;have ch:¬2*(r*K)+2*q<2*(P*K):=(by omega);have c8:2*(P*K)<2*(r*K)+2*q:=(by omega);have a3:¬2*r<P*2:=(by omega);have a4:P*2<2*r:=(by omega);rw[if_neg ch,if_pos c8,if_neg a3,if_pos a4]
 have g7:(m %2^(k+s)=0/\more=false)↔(m/2^k %2^s=0/\(more||decide (m %2^k≠0))=false):=by
  rw[TN];cases more
  ·simp only[and_true,Bool.false_or,decide_eq_false_iff_not,ne_eq,Decidable.not_not];constructor
   ·intro h;have J:m %2^k=0:=(by omega);refine⟨?_,J⟩;rw[J] at h;rcases Nat.mul_eq_zero.1 (by omega:m/2^k %2^s*2^k=0) with R|R
    ·exact R
    ·omega
   ·rintro⟨J,R⟩;rw[J,R];simp
  ·simp
 unfold jv;by_cases h:m %2^(k+s)=0/\more=false
 ·rw[if_pos h,if_pos (g7.1 h),Yh]
 ·rw[if_neg h,if_neg (fun R=>h (g7.2 R)),sQ h,Yh]
def py (neg:Bool) (f:Int):Int:=if neg then 9223372036854775808+f else f
def uT (neg:Bool) (mode:Int):Int:=
 if mode=3\/(mode=1/\neg=false)\/(mode=2/\neg=true) then py neg 9218868437227405311 else py neg 9218868437227405312
def tm (neg:Bool) (n:Nat) (u mode:Int):Int:=
 if n<4503599627370496 then py neg n
 else if n=9007199254740992 then if u+1+1075>=2047 then uT neg mode else py neg ((u+1+1075)*4503599627370496)
 else if u+1075>=2047 then uT neg mode else py neg ((u+1075)*4503599627370496+(n-4503599627370496))
def cM (m:Nat) (e:Int):Int:=max (e+aU m-1-52) (-1074)
def m2 (neg:Bool) (m:Nat) (e:Int) (more:Bool) (mode:Int):Int:=
 if cM m e<=e then tm neg (m*2^(e-cM m e).toNat) (cM m e) mode
 else tm neg (jv neg m (cM m e-e).toNat more mode) (cM m e) mode
theorem azB {m k:Nat} {e:Int} (h:k<aU m):cM (m/2^k) (e+k)=cM m e:=by unfold cM;rw[vG];congr 1;omega
theorem aed {neg:Bool} {m k:Nat} {e:Int} {more:Bool} {mode:Int} (h:k+53<aU m):m2 neg m e more mode=m2 neg (m/2^k) (e+k) (more||decide (m %2^k≠0)) mode:=by have aR:=azB (m:=m) (k:=k) (e:=e) (by omega);have J:e+k<cM m e:=(by unfold cM;omega);unfold m2;rw[aR,if_neg (by omega),if_neg (by omega)];obtain⟨s,hs⟩:∃s:Nat,cM m e-e=(k+s:Nat):=⟨(cM m e-e-k).toNat,by omega⟩;rw[hs,show(cM m e-(e+k)).toNat=s by omega,d7,alI _ _ _ _ _ _ (by omega)]
def rO:Nat->Nat->Nat
 |0,_=>0
 |f+1,n=>if(2*rO f (n/4)+1)*(2*rO f (n/4)+1)<=n then 2*rO f (n/4)+1 else 2*rO f (n/4)
def cI (n:Nat):Nat:=rO (aU n) n
theorem aqY:∀{f n:Nat},n<4^f->rO f n*rO f n<=n/\n<(rO f n+1)*(rO f n+1):=by
 intro f
 induction f with
 |zero=>intro n h;simp at h;subst h;simp[rO]
 |succ f aZ=>
  intro n h;obtain⟨J,R⟩:=aZ (n:=n/4) (by rw[mC] at h;omega);unfold rO;generalize rO f (n/4)=s at J R|-;have aA:(2*s+1)*(2*s+1)=4*(s*s)+4*s+1:=(by grind);have aX:(2*s+1+1)*(2*s+1+1)=4*((s+1)*(s+1)):=(by grind);have bY:2*s*(2*s)=4*(s*s):=(by grind);split
  ·rename_i ac;exact⟨ac,by rw[aX];omega⟩
  ·rename_i ac;exact⟨by rw[bY];omega,by omega⟩
theorem wB (n:Nat):cI n*cI n<=n/\n<(cI n+1)*(cI n+1):=by refine aqY ?_;have J:n<2^aU n:=es.1 (bU _);exact jn J (Nat.pow_le_pow_left (by decide) _)
theorem OY {n a b:Nat} (J:a*a<=n) (R:n<(b+1)*(b+1)):a<=b:=by
 rcases ct b a with h|h
 ·have:=l1 (show b+1<=a from h) (show b+1<=a from h);omega
 ·exact h
theorem NC {n s:Nat} (J:s*s<=n) (R:n<(s+1)*(s+1)):cI n=s:=by obtain⟨ac,aL⟩:=wB n;exact Nat.le_antisymm (OY ac R) (OY J aL)
theorem aaZ (n t:Nat):cI (n*2^(2*t))/2^t=cI n:=by
 obtain⟨J,R⟩:=wB (n*2^(2*t));generalize cI (n*2^(2*t))=s at J R|-;have aw:=kM t;rw[Nat.two_mul,jo] at J R;have ac:=vx s (2^t);have aL:=Nat.mod_lt s aw;generalize s/2^t=a at ac|-;generalize s %2^t=b at ac aL;generalize 2^t=P at*;symm;refine NC ?_ ?_
 ·have aY:(a*a)*(P*P)<=n*(P*P):=by
   refine d8 ?_ J;rw[<-ac];have:P*a*(P*a)<=(P*a+b)*(P*a+b):=l1 (by omega) (by omega);grind
  exact Nat.le_of_mul_le_mul_right aY (Nat.mul_pos aw aw)
 ·have aY:n*(P*P)<((a+1)*(a+1))*(P*P):=by
   refine jn R ?_;have bG:s+1<=(a+1)*P:=(by rw[<-ac];grind);have:=l1 bG bG;grind
  exact Nat.lt_of_mul_lt_mul_right aY
abbrev tJ:=Bool×List Int×Unit
abbrev af0:=Bool×tJ×Int×Unit
def gM (b:tJ):Int:=if b.1 then-af b.2.1 else af b.2.1
def be (z:Int):tJ:=(decide (z<0),c6 z.natAbs,())
theorem sb (z:Int):gM (be z)=z:=by unfold gM be;simp only[nx,decide_eq_true_eq];split<;>omega
theorem o0 (z:Int):bi (be z).2.1:=lE _
theorem Mp (z:Int):ec (be z).2.1:=ry _
theorem ih (z:Int):af (be z).2.1=z.natAbs:=nx _
theorem Dz {z:Int}:(be z).2.1=[]↔z=0:=by show c6 z.natAbs=[]↔_;rw[Q0];omega
theorem YA {neg:Bool} {l:List Int} (ai:bi l) (ah:ec l):(neg&&decide (l≠[]),l,())=be (gM (neg,l,())):=by
 have aV:=ej ai;have J:l=c6 (af l).toNat:=ec.eq ai ah;have R:l=[]↔af l=0:=⟨fun h=>by rw[h];rfl,ec.zero ai ah⟩;unfold be gM;cases neg
 ·simp only[Bool.false_and,Bool.false_eq_true,if_false];rw[show decide (af l<0)=false from decide_eq_false (by omega),show(af l).natAbs=(af l).toNat by omega,<-J]
 ·simp only[Bool.true_and,if_true];rw[show(-af l).natAbs=(af l).toNat by omega,<-J];congr 1;rw[decide_eq_decide];constructor
  ·intro h;have:=mt R.2 h;omega
  ·intro h e;have:=R.1 e;omega
def O9:Nat->Nat->Nat
 |0,_=>0
 |f+1,n=>if n %2=0 then O9 f (n/2)+1 else 0
def cP (n:Nat):Nat:=if n=0 then 0 else O9 (aU n) n
theorem azq:∀{f n:Nat},0<n->n<2^f->∃a,n=(2*a+1)*2^O9 f n:=by
 intro f
 induction f with
 |zero=>intro n J R;simp at R;omega
 |succ f aZ=>
  intro n J R;unfold O9;split
  ·rename_i h;obtain⟨a,aC⟩:=aZ (n:=n/2) (by omega) (by rw[mC] at R;omega);refine⟨a,?_⟩;rw[mC,<-tV,<-aC];omega
  ·rename_i h;exact⟨n/2,by simp;omega⟩
theorem Cq {n:Nat} (h:0<n):∃a,n=(2*a+1)*2^cP n:=by unfold cP;rw[if_neg (by omega)];exact azq h (es.1 (bU _))
theorem aco:∀{s t a b:Nat},(2*a+1)*2^s=(2*b+1)*2^t->s=t/\a=b
 |0,0,a,b,h=>by simp at h;omega
 |0,t+1,a,b,h=>by rw[mC,<-tV] at h;simp at h;omega
 |s+1,0,a,b,h=>by rw[mC,<-tV] at h;simp at h;omega
 |s+1,t+1,a,b,h=>by rw[mC,<-tV,mC,<-tV] at h;obtain⟨J,R⟩:=aco (s:=s) (t:=t) (a:=a) (b:=b) (by omega);exact⟨by omega,R⟩
theorem Jz {n a t:Nat} (h:n=(2*a+1)*2^t):cP n=t:=by have aw:=kM t;have aV:0<n:=(by rw[h];exact Nat.mul_pos (by omega) aw);obtain⟨b,aa⟩:=Cq aV;exact(aco (aa.symm.trans h)).1
theorem azr {n:Nat} (h:0<n) (k:Nat):cP (n*2^k)=cP n+k:=by obtain⟨a,aC⟩:=Cq h;refine Jz (a:=a) ?_;rw[jo,<-tV,<-aC]
theorem Cp {n:Nat} (h:0<n):cP n<aU n:=by
 obtain⟨a,aC⟩:=Cq h;rw[Ai]
 conv=>rhs;rw[aC]
 have:=jQ (2^cP n) (show 1<=2*a+1 by omega);omega
theorem BE {n k:Nat} (h:0<n):k<=cP n↔n %2^k=0:=by
 obtain⟨a,aC⟩:=Cq h;constructor
 ·intro ae;obtain⟨j,ao⟩:∃j,cP n=j+k:=⟨cP n-k,by omega⟩;rw[ao,jo,<-tV] at aC
  conv=>lhs;rw[aC]
  exact Nat.mul_mod_left _ _
 ·intro ak;rcases ct (cP n) k with J|J
  ·exfalso;obtain⟨j,ao⟩:∃j,k=cP n+(j+1):=⟨k-cP n-1,by omega⟩;have R:n=n/2^k*2^k:=(by have:=vx n (2^k);rw[ak,pJ] at this;omega);have aw:=kM (cP n);have ac:(2*a+1)*2^cP n=(2*(n/2^k*2^j))*2^cP n:=by
    rw[<-aC]
    conv=>lhs;rw[R,ao,jo,mC]
    grind
   have:=Nat.eq_of_mul_eq_mul_right aw ac;omega
  ·exact J
def tv (m k:Int):Int:=m*2^k.toNat/2^(-k).toNat
def hR (m e:Int):Option Int:=
 if m=0 then some 0
 else if e+cP m.natAbs< -65536\/65536<e+aU m.natAbs then none
 else some (tv m (e+65536))
def b6:Option Int->af0
 |none=>(true,(false,[],()),0,())
 |some v=>if v=0 then(false,(false,[],()),0,()) else(false,be (v/2^cP v.natAbs),(cP v.natAbs:Int)-65536,())
def iL (v:Int):Prop:=aU v.natAbs<=131072
instance(v:Int):Decidable (iL v):=inferInstanceAs (Decidable (_<=_))
def vI (v:Int):Option Int:=if iL v then some v else none
def e5 (d:Option Int):Prop:=∀v,d=some v->iL v
theorem wV (m:Int) (k:Nat):(m*2^k).natAbs=m.natAbs*2^k:=by rw[Int.natAbs_mul,Int.natAbs_pow];rfl
theorem QH {v:Int} {k:Nat} (h:v.natAbs %2^k=0):v/2^k*2^k=v:=by have J:((2^k:Nat):Int)∣v:=Int.ofNat_dvd_left.2 (Nat.dvd_of_mod_eq_zero h);rw[show(2:Int)^k=((2^k:Nat):Int) by simp];exact Int.ediv_mul_cancel J
theorem IA {v:Int} {k:Nat} (h:v.natAbs %2^k=0):(v/2^k).natAbs=v.natAbs/2^k:=by
 have J:=QH h;have aw:=kM k
 conv=>rhs;rw[<-J,wV,Nat.mul_div_cancel _ aw]
theorem xf (m:Int) (k:Nat):tv m k=m*2^k:=by unfold tv;rw[d7,show(-(k:Int)).toNat=0 by omega];simp
theorem E2 (m:Int) (k:Nat):tv m (-(k:Int))=m/2^k:=by unfold tv;rw[Int.neg_neg,d7,show(-(k:Int)).toNat=0 by omega];simp
def bQ (v:Int):Int:=v/2^cP v.natAbs
def gH (v:Int):Int:=(cP v.natAbs:Int)-65536
theorem EG (v:Int):bQ v*2^cP v.natAbs=v:=by
 rcases nl v.natAbs with h|h
 ·obtain rfl:v=0:=(by omega);rfl
 ·exact QH ((BE h).1 (bU _))
theorem atC {v:Int} (h:v≠0):(bQ v).natAbs=v.natAbs/2^cP v.natAbs:=IA ((BE (by omega)).1 (bU _))
theorem lP {v:Int} (h:v≠0):bQ v≠0:=fun e=>by have:=EG v;rw[e] at this;simp at this;exact h this.symm
theorem atE {v:Int} (h:v≠0):aU (bQ v).natAbs=aU v.natAbs-cP v.natAbs:=by rw[atC h,vG]
theorem EF {v:Int}:bQ v<0↔v<0:=by
 have h:=EG v;have aw:(0:Int)<2^cP v.natAbs:=vl (by decide);constructor
 ·intro J;have:=Int.mul_neg_of_neg_of_pos J aw;omega
 ·intro J;rcases iO (bQ v) 0 with R|R
  ·exact R
  ·have:=qg R (eM aw);omega
theorem YC {v:Int} (h:v≠0):b6 (some v)=(false,be (bQ v),gH v,()):=by show(if v=0 then _ else _)=_;rw[if_neg h];rfl
theorem TL {m e v:Int} (aE:-65536<=e) (hv:v=m*2^(e+65536).toNat):hR m e=vI v:=by
 obtain⟨k,ae⟩:∃k:Nat,e+65536=k:=⟨(e+65536).toNat,by omega⟩;rw[ae,d7] at hv;unfold hR vI;by_cases aV:m=0
 ·subst aV;simp only[Int.zero_mul] at hv;subst hv;rw[if_pos rfl,if_pos (show iL 0 from(by decide:aU 0<=131072))]
 rw[if_neg aV];have aa:aU v.natAbs=aU m.natAbs+k:=(by rw[hv,wV,vF (by omega)]);by_cases hr:iL v
 ·rw[if_pos hr];unfold iL at hr;rw[if_neg (by omega),ae,xf,hv]
 ·rw[if_neg hr];unfold iL at hr;rw[if_pos (by omega)]
theorem asS {v:Int} (h:iL v):hR (bQ v) (gH v)=some v:=by
 by_cases aV:v=0
 ·subst aV;rfl
 rw[TL (v:=v) (by unfold gH;omega) (by
  conv=>lhs;rw[<-EG v]
  unfold gH;rw[show((cP v.natAbs:Int)-65536+65536).toNat=cP v.natAbs by omega])]
 exact if_pos h
theorem TK (m e:Int):e5 (hR m e):=by
 intro v hv;unfold hR at hv;split at hv
 ·cases hv;show aU 0<=_;decide
 split at hv
 ·cases hv
 rename_i aV J;cases hv;unfold iL;rcases Int.le_total 0 (e+65536) with R|R
 ·obtain⟨k,ae⟩:∃k:Nat,e+65536=k:=⟨(e+65536).toNat,by omega⟩;rw[ae,xf,wV,vF (by omega)];omega
 ·obtain⟨k,ae⟩:∃k:Nat,e+65536=-(k:Int):=⟨(-(e+65536)).toNat,by omega⟩;rw[ae,E2,IA ((BE (by omega)).1 (by omega)),vG];omega
theorem alg (v:Int):e5 (vI v):=by
 intro w hw;unfold vI at hw;split at hw
 ·cases hw;assumption
 ·cases hw
theorem adE (A B k d:Nat) (dZ:0<B):A*2^k/B=A*2^(k+d)/B/2^d:=by have aw:=kM d;rw[Nat.div_div_eq_div_mul,jo,<-tV,Nat.mul_div_mul_right _ _ aw]
theorem awH (A B k d:Nat) (dZ:0<B):A*2^k %B≠0↔(A*2^(k+d) %B≠0\/A*2^(k+d)/B %2^d≠0):=by
 have aw:=kM d;have J:=vx (A*2^k) B;have R:=vx (A*2^(k+d)) B;have ac:=vx (A*2^(k+d)/B) (2^d);rw[<-adE A B k d dZ] at ac;generalize A*2^(k+d)/B=q at*;generalize A*2^k/B=f7 at*;generalize A*2^k %B=r' at*;generalize A*2^(k+d) %B=r at*;generalize q %2^d=t at*;rw[jo] at R;generalize 2^d=D at*;generalize 2^k=K at*;have aL:r'*D=B*t+r:=(by have aY:(B*f7+r')*D=B*q+r:=(by rw[J,R,tV]);rw[<-ac,ie,Nat.mul_add] at aY;have bG:B*f7*D=B*(D*f7):=(by grind);omega);constructor
 ·intro hr;have eF:0<r'*D:=Nat.mul_pos (by omega) aw;by_cases md:r=0
  ·right;intro ah;subst ah;subst md;simp at aL;omega
  ·exact .inl md
 ·rintro h e;subst e;simp only[Nat.zero_mul] at aL;rcases h with h|h
  ·omega
  ·have:=Nat.mul_pos dZ (show 0<t by omega);omega
def w6 (k A B:Nat) (neg:Bool) (e mode:Int):Int:=m2 neg (A*2^k/B) (e-k) (decide (A*2^k %B≠0)) mode
theorem OA {k A B:Nat} (dY:0<A) (dZ:0<B) (ae:58+aU B<=aU A+k):58<=aU (A*2^k/B):=by
 rcases ct 57 (aU (A*2^k/B)) with h|h
 ·exact h
 exfalso;have J:A*2^k/B<2^57:=es.1 h;rw[Nat.div_lt_iff_lt_mul dZ] at J;have R:=(C9 dZ).2;have ac:A*2^k<2^57*2^aU B:=jn J (Nat.mul_le_mul_left _ (Nat.le_of_lt R));rw[<-jo,<-es,vF dY] at ac;omega
theorem awF {bk bD A B:Nat} {neg:Bool} {e mode:Int} (dY:0<A) (dZ:0<B) (J:58+aU B<=aU A+bk) (R:bk<=bD):w6 bD A B neg e mode=w6 bk A B neg e mode:=by obtain⟨d,rfl⟩:∃d,bD=bk+d:=⟨bD-bk,by omega⟩;unfold w6;have aa:=OA dY dZ J;have aj:=adE A B bk d dZ;have je:d+53<aU (A*2^(bk+d)/B):=(by have:=vG (A*2^(bk+d)/B) d;rw[<-aj] at this;omega);rw[aed (k:=d) je,<-aj,show e-((bk+d:Nat):Int)+d=e-bk by omega];congr 1;rw[<-Bool.decide_or,decide_eq_decide];exact(awH A B bk d dZ).symm
theorem ayL (M t:Nat):(cI M*cI M≠M)↔(cI (M*2^(2*t))*cI (M*2^(2*t))≠M*2^(2*t)\/cI (M*2^(2*t)) %2^t≠0):=by
 have aw:=kM t;have J:=aaZ M t;have ac:=vx (cI (M*2^(2*t))) (2^t);rw[J] at ac;have uz:2^(2*t)=2^t*2^t:=(by rw[Nat.two_mul,jo]);constructor
 ·intro h;by_cases ah:cI (M*2^(2*t)) %2^t=0
  ·left;intro aE;rw[ah] at ac;rw[<-ac,uz] at aE;refine h (Nat.eq_of_mul_eq_mul_right (Nat.mul_pos aw aw) ?_);grind
  ·exact .inr ah
 ·intro h aE;have aL:cI (M*2^(2*t))=cI M*2^t:=by
   refine NC ?_ ?_
   ·rw[uz];conv=>rhs;rw[<-aE]
    apply Nat.le_of_eq;grind
   ·conv=>lhs;rw[<-aE]
    rw[uz];grind
  rw[aL] at h;rcases h with h|h
  ·refine h ?_
   conv=>rhs;rw[<-aE]
   rw[uz];grind
  ·exact h (Nat.mul_mod_left _ _)
def w9 (k M:Nat) (e mode:Int):Int:=m2 false (cI (M*2^k)) ((e-k)/2) (decide (cI (M*2^k)*cI (M*2^k)≠M*2^k)) mode
theorem NB {M:Nat} (h:115<=aU M):58<=aU (cI M):=by
 rcases ct 57 (aU (cI M)) with J|J
 ·exact J
 exfalso;have R:cI M+1<=2^57:=es.1 J;have ac:=(wB M).2;have aL:=l1 R R;have aY:M<2^114:=(by have:2^57*2^57=2^114:=(by rw[<-jo]);omega);have:=es.2 aY;omega
theorem axN {bk t M:Nat} {e mode:Int} (bF:0<M) (J:115<=aU M+bk) (R:(e-bk) %2=0):w9 (bk+2*t) M e mode=w9 bk M e mode:=by unfold w9;have aa:58<=aU (cI (M*2^bk)):=NB (by rw[vF bF];omega);have aj:=aaZ (M*2^bk) t;have hs:=ayL (M*2^bk) t;rw[jo,<-tV];generalize M*2^bk=N at*;have je:t+53<aU (cI (N*2^(2*t))):=(by have:=vG (cI (N*2^(2*t))) t;rw[aj] at this;omega);rw[aed (k:=t) je,aj,show(e-((bk+2*t:Nat):Int))/2+t=(e-bk)/2 by omega];congr 1;rw[<-Bool.decide_or,decide_eq_decide];exact hs.symm
def Jd (v mode:Int):Int:=if v=0 then 0 else m2 (decide (v<0)) (bQ v).natAbs (gH v) false mode
def qa (A B:Nat):Nat:=59+aU B-aU A
def B5 (a b mode:Int):Int:=w6 (qa (bQ a).natAbs (bQ b).natAbs) (bQ a).natAbs (bQ b).natAbs (decide (a<0)!=decide (b<0)) (gH a-gH b) mode
theorem awG {a b mode:Int} {k:Nat} (aC:a≠0) (aa:b≠0) (ae:qa (bQ a).natAbs (bQ b).natAbs<=k):w6 k (bQ a).natAbs (bQ b).natAbs (decide (a<0)!=decide (b<0)) (gH a-gH b) mode=B5 a b mode:=by have J:=lP aC;have R:=lP aa;refine awF (by omega) (by omega) ?_ ae;unfold qa;omega
def m3 (M:Nat) (e:Int):Nat:=if(e-((118-aU M:Nat):Int)) %2=0 then 118-aU M else 118-aU M+1
def zl (v mode:Int):Int:=w9 (m3 (bQ v).natAbs (gH v)) (bQ v).natAbs (gH v) mode
theorem axO {v mode:Int} {k:Nat} (hv:0<v) (ae:118<=aU (bQ v).natAbs+k) (R:(gH v-k) %2=0):w9 k (bQ v).natAbs (gH v) mode=zl v mode:=by have J:=lP (v:=v) (by omega);unfold zl;have ac:(gH v-(m3 (bQ v).natAbs (gH v):Nat)) %2=0:=(by unfold m3;split<;>omega);have aL:m3 (bQ v).natAbs (gH v)<=k:=(by unfold m3 at ac|-;split<;>rename_i aY<;>simp only[aY,if_true,if_false] at ac<;>omega);obtain⟨t,ah⟩:∃t,k=m3 (bQ v).natAbs (gH v)+2*t:=⟨(k-m3 (bQ v).natAbs (gH v))/2,by omega⟩;rw[ah];refine axN (by omega) ?_ ac;unfold m3;split<;>omega
theorem dC {α:Type} {l:List α} {i:Nat} (h:i<l.length):bf l (i:Int)=some l[i]:=mK (cr h)
theorem JG {n:Nat} (h:n<9223372036854775808):aQ (n:Int)=(n:Int):=wrap64 (by omega) (by omega)
theorem b4 {x:Int} (J:-9223372036854775808<=x) (R:x<=9223372036854775807):aQ x=x:=wrap64 J R
theorem cO {n:Nat} (h:n<9223372036854775807):bN (n:Int)=((n+1:Nat):Int):=by unfold bN;rw[wrap64 (by omega) (by omega)];simp
theorem dr {x:Int} (J:0<=x) (R:x<18446744073709551616):bc x=x:=Pm J R
theorem m7 {x:Int} (J:0<=x) (R:x<4294967296):dt x=x:=VN J R
theorem tE (x:Int):dt x=x %4294967296:=VM x
theorem n2 (x:Int):bc x=x %18446744073709551616:=JH x
theorem wH {x:Int} (J:0<=x) (R:x<18446744073709551616):dt (ed IntKind.u64 x 4294967295)=x %4294967296:=by rw[and_low32 J R,m7 (by omega) (by omega)]
theorem bL {α:Type} (l:List α):aS l=(l.length:Int):=rfl
theorem OW {α:Type} {l:List α} {n:Nat} (h:n<=l.length):((some (0:Nat)).bind fun H5=>(jh (n:Int)).bind fun H6=>(jG H5 H6 l.length).map fun _=>(H5,H6))=some (0,n):=by rw[bq,EB,bq,Ie ⟨eX _,h⟩];rfl
theorem r9 {l:List Int} (ai:bi l) (ag:l.length<=100000000):iS (l,())=some (hz l,()):=by
 unfold iS;refine U.eq_iff.1 ?_;refine U.bJ (P:=fun r=>∃n:Nat,r.1=(n:Int)/\n<=l.length/\(∀k,n<=k->(ae:k<l.length)->l[k]=0)/\ec (l.take n)) ?_ ?_
 ·refine U.loop (fun s=>∃n:Nat,s.1=(n:Int)/\n<=l.length/\(∀k,n<=k->(ae:k<l.length)->l[k]=0)) (fun s=>s.1.toNat) ⟨l.length,rfl,bU _,fun k J R=>by omega⟩ ?_;rintro⟨_,_⟩ ⟨n,rfl,J,R⟩;rcases n with _|n
  ·refine U.ar.2 ⟨0,rfl,eX _,R,fun x ab=>by simp at ab⟩
  ·have aA:aQ (((n+1:Nat):Int)-1)=(n:Int):=(by rw[b4 (by omega) (by omega)];omega);have aX:decide (((n+1:Nat):Int)>0)=true:=a8 (by omega);simp only[aA,aX,beq_self_eq_true,cond_true,dC (show n<l.length from J),bq];by_cases aV:l[n]=0
   ·rw[eY,a8 aV];refine U.ar.2 ⟨⟨n,rfl,by omega,fun k ae gI=>?_⟩,?_⟩
    ·rcases ct n k with h|h
     ·exact R k h gI
     ·obtain rfl:k=n:=(by omega);exact aV
    ·show(n:Int).toNat<((n+1:Nat):Int).toNat;omega
   ·rw[eY,a1 aV];refine U.ar.2 ⟨n+1,rfl,J,R,fun x ab=>?_⟩;rw[lY,cr J] at ab;have ab:(l.take n++[l[n]]).getLast?=some x:=ab;rw[List.getLast?_concat] at ab;cases ab;exact aV
 ·rintro⟨_,_⟩ ⟨n,rfl,J,R,ac⟩;refine U.of_eq (aI (OW J) rfl) ?_;show(List.drop 0 (List.take n l),())=_;rw[qh,ae7 ai J R ac]
theorem FP {l:List Int} (ag:l.length<=100000000):AD (l,())=some (l,()):=by
 unfold AD;have e:((di (([]:List Int).length+l.length)).bind fun _=>some (([]++l:List Int),()))=some (l,()):=(by rw[fo (by simp;omega)];rfl);show rT l.length (some ([],())) ((di (([]:List Int).length+l.length)).bind fun _=>some (([]++l:List Int),()))=_;unfold rT;rw[e];split
 ·rename_i h;obtain rfl:=qi h;rw[if_pos rfl]
 ·rfl
theorem wG {l:List Int}:(aS l==0)=decide (l=[]):=by rw[eY,decide_eq_decide];show((l.length:Nat):Int)=0↔_;rw[<-PB];omega
theorem C6 {neg:Bool} {l:List Int} (ai:bi l) (ag:l.length<=100000000):nv (neg,l,())=some (be (gM (neg,l,())),()):=by
 unfold nv;refine aI (r9 ai ag) ?_;have h:=YA (neg:=neg) (Vz l) (ae6 l);have R:gM (neg,hz l,())=gM (neg,l,()):=(by unfold gM;simp only[VA ai]);rw[<-R,<-h];simp only[wG,cC];split
 ·rename_i aV;simp[aV]
 ·rename_i aV;simp[aV]
theorem amD {z:Int} {n:Nat} (h:z.natAbs<2^(32*n)):(be z).2.1.length<=n:=by refine vZ ?_;unfold a9;have J:(2^(32*n):Nat)=4294967296^n:=(by rw[Nat.pow_mul]);rw[J] at h;have:((4294967296^n:Nat):Int)=4294967296^n:=(by simp);omega
def Fit (z:Int):Prop:=(be z).2.1.length<=31250
theorem amC (k:Nat) {z:Int} (h:aU z.natAbs<=32*k):(be z).2.1.length<=k:=amD (es.1 h)
theorem kw {z:Int} (h:aU z.natAbs<=1000000):Fit z:=amC 31250 (by omega)
theorem aty {b:tJ} (ai:bi b.2.1) (ag:b.2.1.length<=100000000):Lf (b,())=some (be (gM b),()):=by obtain⟨neg,l,_⟩:=b;unfold Lf;exact aI (FP ag) (aI (C6 ai ag) rfl)
theorem Pg (neg:Bool) (l:List Int):gM (!neg,l,())=-gM (neg,l,()):=by unfold gM;cases neg<;>simp
theorem afp {l:List Int} (h:bi l) (neg:Bool):gM (false,l,())=(gM (neg,l,())).natAbs:=by have:=ej h;unfold gM;cases neg<;>simp<;>omega
theorem acf {z:Int} (a2:Fit z):x5 (be z,())=some (be (-z),()):=by unfold x5;have ag:(be z).2.1.length<=100000000:=d8 a2 (by decide);refine aI (FP ag) (aI (C6 (o0 z) ag) ?_);have h:=Pg (be z).1 (be z).2.1;have R:=sb z;rw[h];show some (be (-gM (be z)),())=_;rw[R]
theorem PM {z:Int} (a2:Fit z):Di (be z,())=some (be z.natAbs,()):=by unfold Di;have ag:(be z).2.1.length<=100000000:=d8 a2 (by decide);refine aI (FP ag) (aI (C6 (o0 z) ag) ?_);rw[afp (o0 z) (be z).1];have R:=sb z;show some (be ((gM (be z)).natAbs:Int),())=_;rw[R]
theorem ae4 {z:Int} (a2:Fit z):iS ((be z).2.1,())=some ((be z).2.1,()):=by rw[r9 (o0 z) (d8 a2 (by decide))];have h:=ec.eq (o0 z) (Mp z);show some (c6 (af (be z).2.1).toNat,())=_;rw[<-h]
def eT (z:Int):Int:=if z=0 then 0 else if z<0 then-1 else 1
theorem xh {z:Int} (a2:Fit z):sD (be z,())=some (eT z,()):=by
 unfold sD;refine aI (ae4 a2) ?_;simp only[wG,cC,Dz];unfold eT;split
 ·rfl
 ·show(bif decide (z<0) then _ else _)=_;rw[cC];split<;>rfl
theorem U.steps {σ ρ:Type} {f:σ->Option (σ⊕ρ)} {Q:ρ->Prop} (n:Nat) (I:Nat->σ->Prop) {kG:σ} (aV:I 0 kG) (wu:∀i s,i<n->I i s->U (f s) (fun|.inl s'=>I (i+1) s'|.inr r=>Q r)) (wg:∀s,I n s->U (f s) (fun|.inl _=>False|.inr r=>Q r)):U (mz.loop f kG) Q:=by
 have key:∀k i s,i+k=n->I i s->∃r,kX f (k+1) s=some r/\Q r:=by
  intro k
  induction k with
  |zero=>
   intro i s hi hs;obtain rfl:i=n:=hi;obtain⟨y,J,R⟩:=wg s hs;cases y with
   |inl s'=>exact R.elim
   |inr r=>exact⟨r,by simp only[kX,J],R⟩
  |succ k aZ=>
   intro i s hi hs;obtain⟨y,J,R⟩:=wu i s (by omega) hs;cases y with
   |inl s'=>
    obtain⟨r,ac,aL⟩:=aZ (i+1) s' (by omega) R;exact⟨r,by rw[kX,J];exact ac,aL⟩
   |inr r=>exact⟨r,by simp only[kX,J],R⟩
 obtain⟨r,J,R⟩:=key n 0 kG (by omega) aV;exact⟨r,Ii.2 ⟨_,J⟩,R⟩
theorem E9 (l:List Int) (i:Nat):af (l.take (i+1))=af (l.take i)+a9 i*l.getD i 0:=by
 rcases ct i l.length with h|h
 ·rw[h6 h,lW,cr h];rfl
 ·rw[dW (by omega),dW h,lW,gW h];simp
theorem bi.getD {l:List Int} (h:bi l) (i:Nat):0<=l.getD i 0/\l.getD i 0<4294967296:=by
 rcases ct i l.length with J|J
 ·rw[lW,cr J];exact h.get J
 ·rw[lW,gW J];exact⟨xF _,by decide⟩
theorem mJ {l:List Int} {i:Nat} (h:i<l.length):l.getD i 0=l[i]:=by rw[lW,cr h];rfl
theorem rz {l:List Int} {i:Nat} (h:l.length<=i):l.getD i 0=0:=by rw[lW,gW h];rfl
theorem UA {a b:List Int} (aC:bi a) (aa:bi b) (kY:a.length<=10000000) (f5:b.length<=10000000):AA (a,b,())=some (c6 (af a+af b).toNat,()):=by
 unfold AA;refine U.eq_iff.1 ?_;refine U.bJ (P:=fun r=>∃x y,r=(x,y,())/\bi x/\bi y/\x.length<=10000000/\y.length<=x.length/\af x+af y=af a+af b) ?_ ?_
 ·simp only[cC];refine U.ite (fun h=>U.ar.2 ⟨b,a,rfl,aa,aC,f5,?_,Int.add_comm _ _⟩) fun h=>U.ar.2 ⟨a,b,rfl,aC,aa,kY,?_,rfl⟩
  ·simp only[bL] at h;omega
  ·simp only[bL] at h;omega
 rintro _ ⟨b9,c3,rfl,aoG,cZ,aBH,fb,hs⟩;rw[<-hs];clear hs aC aa kY f5;dsimp only;have ek:bN (aS b9)=((b9.length+1:Nat):Int):=cO (by omega);have aA:fJ 0 ((b9.length+1:Nat):Int)=some 0:=(by unfold fJ;rw[if_pos ⟨by omega,by omega,by have:gS=4294967296:=rfl;omega⟩];rfl);rw[ek,aA];refine U.bJ (P:=fun r=>∃c out,r=(c,out,())/\out.length=b9.length/\bi out/\0<=c/\c<=1/\af out+a9 b9.length*c=af b9+af c3) ?_ ?_
 ·refine U.steps b9.length (fun i s=>∃c out,s=(c,(i:Int),out,())/\out.length=i/\bi out/\0<=c/\c<=1/\af out+a9 i*c=af (b9.take i)+af (c3.take i)) ⟨0,[],rfl,rfl,bi.nil,by omega,by omega,by simp[af]⟩ ?_ ?_
  ·rintro i _ hi ⟨c,out,rfl,J,R,ac,aL,aY⟩;have ab:=aoG.get hi;have aB:=cZ.getD i;have ah:∃t,t=b9[i]+c+c3.getD i 0/\0<=t/\t<18446744073709551616/\t/4294967296<=1:=⟨_,rfl,by omega,by omega,by omega⟩;obtain⟨t,ah,t0,t1,t2⟩:=ah;have ai:decide ((i:Int)<aS b9)=true:=a8 (by simp only[bL];omega);simp only[ai,cond_true,dC hi,bq];refine U.bJ (P:=fun r=>r=(t/4294967296,out++[t %4294967296],())) ?_ ?_
   ·refine U.bJ (P:=fun r=>r=(t,out,())) ?_ ?_
    ·simp only[cC];refine U.ite (fun h=>?_) fun h=>?_
     ·have h:i<c3.length:=(by simp only[bL] at h;omega);rw[dC h];rw[mJ h] at ah aB;refine U.ar.2 ?_;rw[dr (x:=b9[i]) (by omega) (by omega),dr (x:=b9[i]+c) (by omega) (by omega),dr (x:=c3[i]) (by omega) (by omega),dr (by omega) (by omega),ah]
     ·have h:c3.length<=i:=(by simp only[bL] at h;omega);rw[rz h] at ah;refine U.ar.2 ?_;rw[dr (x:=b9[i]) (by omega) (by omega),dr (x:=b9[i]+c) (by omega) (by omega),ah,Int.add_zero]
    ·rintro _ rfl;dsimp only;rw[fo (by simp;omega),wH t0 t1,qe];exact U.ar.2 rfl
   ·rintro _ rfl;dsimp only;refine U.ar.2 ⟨t/4294967296,out++[t %4294967296],by rw[cO (by omega)],by simp[J],R.snoc (by omega) (by omega),by omega,t2,?_⟩;rw[vd,J,ia,h6 hi,E9];have:=Int.emod_add_mul_ediv t 4294967296;generalize t/4294967296=q at*;generalize t %4294967296=r at*;subst ah;grind
  ·rintro _ ⟨c,out,rfl,J,R,ac,aL,aY⟩;have ai:decide ((b9.length:Int)<aS b9)=false:=a1 (by simp only[bL];omega);simp only[ai,cond_false];refine U.ar.2 ⟨c,out,rfl,J,R,ac,aL,?_⟩;rw[aY,dW (bU _),dW fb]
 ·rintro _ ⟨c,out,rfl,J,R,ac,aL,aY⟩;dsimp only;rw[fo (by simp;omega),m7 ac (by omega)];refine U.of_eq (aI rfl (aI (r9 (R.snoc ac (by omega)) (by simp;omega)) rfl)) ?_;show(hz (out++[c]),())=_;rw[hz,vd,J,aY]
def js (l:List Int) (i:Nat):Prop:=∀k,i<=k->(ae:k<l.length)->l[k]=0
theorem js.n3 (n i:Nat):js (List.replicate n (0:Int)) i:=fun k _ ae=>by simp
theorem js.set {l:List Int} {i:Nat} (h:js l i) (x:Int):js (l.set i x) (i+1):=fun k J ae=>by rw[zV (by omega)];exact h k (by omega) _
theorem js.Vh {l:List Int} {i j:Nat} (h:js l i) (x:Int) (ao:j<i):js (l.set j x) i:=fun k J ae=>by rw[zV (by omega)];exact h k J _
theorem abQ {a b:List Int} (aC:bi a) (aa:bi b) (kY:a.length<=10000000) (fb:b.length<=a.length) (hv:af b<=af a):Dm (a,b,())=some (c6 (af a-af b).toNat,()):=by
 unfold Dm;refine U.eq_iff.1 ?_;simp only[bL,jZ (show a.length<=4294967296 by omega),bq];refine U.bJ (P:=fun r=>∃out c,r=(out,())/\out.length=a.length/\bi out/\0<=c/\c<=1/\af out-a9 a.length*c=af a-af b) ?_ ?_
 ·refine U.steps a.length (fun i s=>∃c out,s=(c,(i:Int),out,())/\out.length=a.length/\bi out/\js out i/\0<=c/\c<=1/\af out-a9 i*c=af (a.take i)-af (b.take i)) ⟨0,_,rfl,by simp,bi.n3 _,js.n3 _ _,by omega,by omega,by simp[af,tC]⟩ ?_ ?_
  ·rintro i _ hi ⟨c,out,rfl,J,R,a2,ac,aL,aY⟩;have ab:=aC.get hi;have aB:=aa.getD i;obtain⟨d,aP,cK,cG⟩:∃d,d=a[i]-c-b.getD i 0/\-4294967296<=d/\d<4294967296:=⟨_,rfl,by omega,by omega⟩;have ai:decide ((i:Int)<(a.length:Int))=true:=a8 (by omega);simp only[bL,ai,cond_true,dC hi,bq];refine U.bJ (P:=fun r=>r=(-(d/4294967296),out.set i (d %4294967296),())) ?_ ?_
   ·refine U.bJ (P:=fun r=>r=(d %18446744073709551616,out,())) ?_ ?_
    ·simp only[cC];refine U.ite (fun h=>?_) fun h=>?_
     ·have h:i<b.length:=(by omega);rw[dC h];rw[mJ h] at aP aB;refine U.ar.2 ?_;simp only[n2];rw[aP];congr 1;omega
     ·have h:b.length<=i:=(by omega);rw[rz h] at aP;refine U.ar.2 ?_;simp only[n2];rw[aP];congr 1;omega
    ·rintro _ rfl;dsimp only;rw[wH (by omega) (by omega),m8 (by omega),qe];refine U.ar.2 ?_;rw[xT 1 (by omega) (by omega) 1 (by decide) (by decide)];have aN:d %18446744073709551616/4294967296 %2^1=-(d/4294967296):=by
      rw[show(2:Int)^1=2 from rfl];omega
     have aM:d %18446744073709551616 %4294967296=d %4294967296:=(by omega);rw[aN,aM]
   ·rintro _ rfl;dsimp only;refine U.ar.2 ⟨-(d/4294967296),out.set i (d %4294967296),by rw[cO (by omega)],by simp[J],R.set (by omega) (by omega),a2.set _,by omega,by omega,?_⟩;rw[pC (by omega),a2 i (Nat.le_refl _) (by omega),ia,h6 hi,E9];have:=Int.emod_add_mul_ediv d 4294967296;generalize d/4294967296=q at*;generalize d %4294967296=r at*;subst aP;grind
  ·rintro _ ⟨c,out,rfl,J,R,a2,ac,aL,aY⟩;have ai:decide ((a.length:Int)<(a.length:Int))=false:=a1 (by omega);simp only[bL,ai,cond_false];refine U.ar.2 ⟨out,c,rfl,J,R,ac,aL,?_⟩;rw[aY,dW (bU _),dW fb]
 ·rintro _ ⟨out,c,rfl,J,R,ac,aL,aY⟩;dsimp only;have bG:=gU R;have eF:=eU a.length;rw[J] at bG;have hc:c=0:=by
   rcases iO 0 c with h|h
   ·obtain rfl:c=1:=(by omega);omega
   ·omega
  subst hc;refine U.of_eq (aI (r9 R (by omega)) rfl) ?_;show(hz out,())=_;rw[hz,<-aY];simp
def e2 (x y:Int):Int:=if x<y then-1 else if y<x then 1 else 0
theorem Qm (x y:Int):Dd (x,y,())=some (e2 x y,()):=by
 unfold Dd x3 e2;simp only[bne_self_eq_false,bq,cond_false,cC];split
 ·rfl
 ·split
  ·rename_i J R
   first|rfl|(rw[if_pos (by omega)])
  ·first|rfl|(rename_i J R;rw[if_neg (by omega)])
theorem alz (x y:Int):KO (x,y,())=some (e2 x y,()):=by
 unfold KO KQ e2;simp only[bne_self_eq_false,bq,cond_false,cC];split
 ·rfl
 ·split
  ·rename_i J R
   first|rfl|(rw[if_pos (by omega)])
  ·first|rfl|(rename_i J R;rw[if_neg (by omega)])
theorem Ph {a b:List Int} (aC:bi a) (aa:bi b) {i:Nat} (hi:i<a.length) (ao:i<b.length) (h:af (a.drop (i+1))=af (b.drop (i+1))) (ca:a[i]<b[i]):af a<af b:=by rw[sc a i (by omega),sc b i (by omega),n1 hi,n1 ao,h];have J:=gU (aC.take i);have R:=ej (aa.take i);rw[eW,hU (by omega)] at J;have ac:a9 i*(a[i]+1)<=a9 i*b[i]:=kI (by omega) (eM (eU i));have aL:a9 i*(a[i]+1)=a9 i*a[i]+a9 i:=(by grind);have aY:∀z,a9 i*(a[i]+z)=a9 i*a[i]+a9 i*z:=fun z=>(by grind);have bG:∀z,a9 i*(b[i]+z)=a9 i*b[i]+a9 i*z:=fun z=>(by grind);rw[aY,bG];omega
theorem vc {a b:List Int} (aC:bi a) (aa:bi b) (tb:ec b) (h:a.length<b.length):af a<af b:=by have J:=gU aC;have R:=ec.low aa tb (by intro e;rw[e] at h;simp at h);have ac:=tp (m:=a.length) (n:=b.length-1) (by omega);omega
theorem KJ {a b:List Int} (aC:bi a) (aa:bi b) (ta:ec a) (tb:ec b) (kY:a.length<=10000000) (f5:b.length<=10000000):Az (a,b,())=some (e2 (af a) (af b),()):=by
 unfold Az;refine U.eq_iff.1 ?_;simp only[ee,bL];by_cases ag:a.length=b.length
 ·rw[a8 (show(a.length:Int)=b.length by omega)];simp only[mw,cond_false];refine U.bJ (P:=fun q=>match q with|.inl _=>af a=af b|.inr r=>r=(e2 (af a) (af b),())) ?_ ?_
  ·refine U.steps a.length (fun i s=>s=(((a.length:Nat):Int)-1-i,())/\af (a.drop (a.length-i))=af (b.drop (a.length-i))) ⟨?_,?_⟩ ?_ ?_
   ·rw[b4 (by omega) (by omega)];simp
   ·rw[tQ (by omega),tQ (by omega)]
   ·rintro i _ hi ⟨rfl,J⟩;obtain⟨k,ae⟩:∃k,a.length=k+1+i:=⟨a.length-1-i,by omega⟩;have aA:((a.length:Nat):Int)-1-(i:Int)=(k:Int):=(by omega);have qM:k<a.length:=(by omega);have wD:k<b.length:=(by omega);rw[show a.length-i=k+1 by omega] at J;simp only[aA,a8 (show(k:Int)>=0 by omega),cond_true,dC qM,dC wD,bq,alz];by_cases aE:a[k]=b[k]
    ·simp only[a8 aE,mw,cond_false];refine U.ar.2 ⟨?_,?_⟩
     ·rw[b4 (by omega) (by omega)];congr 1;omega
     ·rw[show a.length-(i+1)=k by omega,n1 qM,n1 wD,aE,J]
    ·simp only[a1 aE,oH,cond_true];refine U.ar.2 ?_;show(e2 a[k] b[k],())=_;have hc:e2 a[k] b[k]=e2 (af a) (af b):=by
      unfold e2;rcases Int.lt_or_gt_of_ne aE with h|h
      ·rw[if_pos h,if_pos (Ph aC aa qM wD J h)]
      ·have:=Ph aa aC wD qM J.symm h;rw[if_neg (by omega),if_pos h,if_neg (by omega),if_pos this]
     rw[hc]
   ·rintro _ ⟨rfl,J⟩;have aA:¬(((a.length:Nat):Int)-1-(a.length:Int)>=0):=(by omega);simp only[a1 aA,cond_false];refine U.ar.2 ?_;simpa using J
  ·rintro(q|q) aj
   ·refine U.ar.2 ?_;have aj:af a=af b:=aj;unfold e2;rw[aj];simp
   ·have aj:q=_:=aj;rw[aj];exact U.ar.2 rfl
 ·rw[a1 (show¬(a.length:Int)=b.length by omega)];simp only[oH,cond_true,Qm,bq];refine U.ar.2 ?_;congr 1;unfold e2;rcases Nat.lt_or_gt_of_ne ag with h|h
  ·rw[if_pos (by omega),if_pos (vc aC aa tb h)]
  ·have:=vc aa aC ta h;rw[if_neg (by omega),if_pos (by omega),if_neg (by omega),if_pos this]
theorem Iw {x y:Int} (ab:0<=x/\x<4294967296) (aB:0<=y/\y<4294967296):0<=x*y/\x*y<=18446744065119617025:=by refine⟨qg ab.1 aB.1,?_⟩;have J:x*y<=4294967295*y:=oK (by omega) aB.1;have R:(4294967295:Int)*y<=4294967295*4294967295:=kI (by omega) (by decide);omega
theorem axU {b pp:List Int} {x:Int} {i N:Nat} (ab:0<=x/\x<4294967296) (aa:bi b) (hi:i+b.length<N) (rB:N<=100000000) (J:pp.length=N) (R:bi pp) (a2:js pp (i+b.length)) {cd:jr->Prop} (aq:∀c out,out.length=N->bi out->js out (i+b.length)->0<=c->c<4294967296->af out+a9 (i+b.length)*c=af pp+a9 i*(x*af b)->cd (c,out,())):U (loop (σ:=t7) (ρ:=jr) (fun(An,nV,wZ,_)=>
 bif decide (nV<aS b) then
 (bf b nV).bind fun q5=>
 rd wZ (aQ ((i:Int)+nV)) fun mv=>
 wr wZ (aQ ((i:Int)+nV)) (dt (ed IntKind.u64 (bc (bc (bc (bc x*bc q5)+bc mv)+An)) 4294967295)) fun CE=>
 (d6 IntKind.u64 (bc (bc (bc (bc x*bc q5)+bc mv)+An)) 32).bind fun sg=>
 some (.inl (sg,bN nV,CE,())) else
 some (.inr (An,wZ,()))) (0,0,pp,())) cd:=by
 refine U.steps b.length (fun j s=>∃c out,s=(c,(j:Int),out,())/\out.length=N/\bi out/\js out (i+b.length)/\0<=c/\c<4294967296/\af out+a9 (i+j)*c=af pp+a9 i*(x*af (b.take j))) ⟨0,pp,rfl,J,R,a2,by omega,by omega,by simp[af]⟩ ?_ ?_
 ·rintro j _ ao ⟨c,out,rfl,aN,aM,bb,bH,dv,p9⟩;have aB:=aa.get ao;have aJ:=aM.get (n:=i+j) (by omega);have ak:=Iw ab aB;obtain⟨t,ah,t0,t1⟩:∃t,t=x*b[j]+out[i+j]+c/\0<=t/\t<18446744073709551616:=⟨_,rfl,by omega,by omega⟩;simp only[a8 (show(j:Int)<aS b by simp only[bL];omega),cond_true,dC ao,bq];have aA:aQ ((i:Int)+(j:Int))=((i+j:Nat):Int):=(by rw[b4 (by omega) (by omega)];simp);rw[aA,oC (by omega)];have aX:bc (bc (bc (bc x*bc b[j])+bc out[i+j])+c)=t:=by
   rw[dr (x:=x) (by omega) (by omega),dr (x:=b[j]) (by omega) (by omega),dr (x:=out[i+j]) (by omega) (by omega),dr (x:=x*b[j]) (by omega) (by omega),dr (x:=x*b[j]+out[i+j]) (by omega) (by omega),<-ah,dr t0 t1]
  rw[aX,wH t0 t1,m8 (by omega),qe];refine U.ar.2 ⟨t/4294967296,out.set (i+j) (t %4294967296),by rw[cO (by omega)],by simp[aN],aM.set (by omega) (by omega),bb.Vh _ (by omega),by omega,by omega,?_⟩;rw[pC (by omega),show i+(j+1)=(i+j)+1 by omega,ia,h6 ao];have bY:=jM t 4294967296;rw[zM] at p9|-;generalize t/4294967296=q at*;generalize t %4294967296=r at*;generalize out[i+j]=o at*;generalize b[j]=y at*;subst ah;have e7:r=x*y+o+c-4294967296*q:=(by omega);subst e7;grind
 ·rintro _ ⟨c,out,rfl,aN,aM,bb,bH,dv,p9⟩;simp only[a1 (show¬((b.length:Int)<aS b) by simp only[bL];omega),cond_false];refine U.ar.2 (aq c out aN aM bb bH dv ?_);rw[p9,dW (bU _)]
theorem azh {a b:List Int} (aC:bi a) (aa:bi b) (kY:a.length<=10000000) (f5:b.length<=10000000):Lk (a,b,())=some (c6 (af a*af b).toNat,()):=by
 unfold Lk;refine U.eq_iff.1 ?_;simp only[wG];refine U.bJ (P:=fun q=>match q with|.inl _=>a≠[]/\b≠[]|.inr r=>r=(c6 (af a*af b).toNat,())) ?_ ?_
 ·by_cases J:a=[]
  ·simp only[a8 J];refine U.ar.2 ?_;subst J;simp[af];rfl
  ·simp only[a1 J,beq_self_eq_true,cond_true];by_cases R:b=[]
   ·simp only[a8 R,cond_true];refine U.ar.2 ?_;subst R;simp[af];rfl
   ·simp only[a1 R,cond_false];exact U.ar.2 ⟨J,R⟩
 rintro(q|q) aj
 rotate_left
 ·have aj:q=_:=aj;subst aj;exact U.ar.2 rfl
 clear aj;dsimp only;have ek:aQ (aS a+aS b)=((a.length+b.length:Nat):Int):=(by simp only[bL];rw[b4 (by omega) (by omega)];simp);rw[ek,jZ (by omega),Option.bind_some];refine U.bJ (P:=fun r=>∃out,r=(out,())/\out.length=a.length+b.length/\bi out/\af out=af a*af b) ?_ ?_
 ·refine U.steps a.length (fun i s=>∃out,s=((i:Int),out,())/\out.length=a.length+b.length/\bi out/\js out (i+b.length)/\af out=af (a.take i)*af b) ⟨_,rfl,by simp,bi.n3 _,js.n3 _ _,by simp[af,tC]⟩ ?_ ?_
  ·rintro i _ hi ⟨out,rfl,aN,aM,bb,bH⟩;simp only[a8 (show(i:Int)<aS a by simp only[bL];omega),cond_true,dC hi,Option.bind_some];refine U.bJ (P:=fun r=>∃c ml,r=(c,ml,())/\ml.length=a.length+b.length/\bi ml/\js ml (i+b.length)/\0<=c/\c<4294967296/\af ml+a9 (i+b.length)*c=af out+a9 i*(a[i]*af b)) (axU (aC.get hi) aa (by omega) (by omega) aN aM bb fun c ml fy eu p8 w2 w3 BY=>⟨c,ml,rfl,fy,eu,p8,w2,w3,BY⟩) ?_;rintro _ ⟨c,ml,rfl,fy,eu,p8,w2,w3,BY⟩;have aA:aQ ((i:Int)+aS b)=((i+b.length:Nat):Int):=(by simp only[bL];rw[b4 (by omega) (by omega)];simp);dsimp only;rw[aA,m7 w2 w3,m8 (by omega)];refine U.ar.2 ⟨ml.set (i+b.length) c,by rw[cO (by omega)],by simp[fy],eu.set w2 w3,?_,?_⟩
   ·rw[show i+1+b.length=i+b.length+1 by omega];exact p8.set _
   ·rw[pC (by omega),p8 _ (bU _) (by omega),h6 hi,Int.sub_zero,BY,bH];grind
  ·rintro _ ⟨out,rfl,aN,aM,bb,bH⟩;simp only[a1 (show¬((a.length:Int)<aS a) by simp only[bL];omega),cond_false];refine U.ar.2 ⟨out,rfl,aN,aM,?_⟩;rw[bH,dW (bU _)]
 ·rintro _ ⟨out,rfl,aN,aM,bb⟩;refine U.of_eq (aI (r9 aM (by show out.length<=_;omega)) rfl) ?_;show(hz out,())=_;rw[hz,bb]
theorem arJ:∀n:Nat,n<256->vb NS (n:Int)=some (aU n:Int):=by have h:(List.range 256).all (fun n=>vb NS (n:Int)==some (aU n:Int))=true:=(by decide+kernel);intro n ag;have:=fM.1 h n (j9.2 ag);exact eq_of_beq this
theorem Vk {x y:Int} (aB:0<=y) (R:y<=32):d6 .u32 x y=some (x/2^y.toNat):=by unfold d6;rw[if_pos aB,show IntKind.u32.bits=32 from rfl,hU (by omega),J3 _ (by exact Int.pow_nonneg (by decide))]
theorem aeH {x y:Int} (aB:0<=y) (R:y<=32):iq .u32 x y=some ((x*2^y.toNat) %4294967296):=by unfold iq;rw[if_pos aB,VM,show IntKind.u32.bits=32 from rfl,hU (by omega)]
theorem az0 {x:Int} (J:0<=x) (R:x<256):IntKind.u8.wrap x=x:=by unfold IntKind.wrap;refine(if_neg (show¬(false&&decide (x %256>=(128:Int)))=true by simp)).trans ?_;show x %256=x;omega
theorem Xy {n k:Nat} (h:2^k<=n):aU n=aU (n/2^k)+k:=by rw[vG];have:=Ai.2 h;omega
theorem Tr {n:Nat} (h:n<4294967296):Dn ((n:Int),())=some ((aU n:Int),()):=by
 unfold Dn;refine U.eq_iff.1 ?_;refine U.bJ (P:=fun r=>∃m k:Nat,r=((m:Int),(k:Int),())/\m<65536/\aU n=aU m+k/\k<=16) ?_ ?_
 ·simp only[cC];refine U.ite (fun J=>?_) fun J=>?_
  ·rw[Vk (by decide) (by decide)];refine U.ar.2 ⟨n/2^16,16,?_,by omega,Xy (by omega),by omega⟩;simp
  ·exact U.ar.2 ⟨n,0,rfl,by omega,rfl,by omega⟩
 rintro _ ⟨m,k,rfl,J,R,ac⟩;refine U.bJ (P:=fun r=>∃m k:Nat,r=((m:Int),(k:Int),())/\m<256/\aU n=aU m+k/\k<=24) ?_ ?_
 ·simp only[cC];refine U.ite (fun aL=>?_) fun aL=>?_
  ·rw[Vk (by decide) (by decide)];refine U.ar.2 ⟨m/2^8,k+8,?_,by omega,by have:=Xy (n:=m) (k:=8) (by omega);omega,by omega⟩;rw[wrap64 (by omega) (by omega)];simp
  ·exact U.ar.2 ⟨m,k,rfl,by omega,R,by omega⟩
 rintro _ ⟨iW,c0,rfl,aL,aY,bG⟩;dsimp only;rw[az0 (by omega) (by omega),arJ iW aL];refine U.ar.2 ?_;have eF:aU iW<=8:=es.2 (by omega);rw[wrap64 (x:=(aU iW:Int)) (by omega) (by omega),wrap64 (by omega) (by omega),aY];congr 1;omega
theorem akB {l:List Int} {x:Int} (ai:bi l) (ab:0<x):aU (af l+a9 l.length*x).toNat=32*l.length+aU x.toNat:=by
 obtain⟨n,rfl⟩:=fL (eM ab);obtain⟨v,hv⟩:=fL (ej ai);have J:=gU ai;rw[hv] at J|-;have aw:a9 l.length=((2^(32*l.length):Nat):Int):=(by unfold a9;rw[Nat.pow_mul];simp);rw[aw] at J|-;generalize 32*l.length=k at*;have ag:0<n:=(by omega);have R:((v:Int)+((2^k:Nat):Int)*(n:Int)).toNat=v+2^k*n:=(by rw[<-oL,<-Int.natCast_add];rfl);show aU ((v:Int)+((2^k:Nat):Int)*(n:Int)).toNat=_;rw[R];obtain⟨dg,dF⟩:=C9 ag;have aa:=ub ag;obtain⟨j,ao⟩:∃j,aU n=j+1:=⟨aU n-1,by omega⟩;show _=k+aU n;rw[ao] at dg dF|-;have ld:v<2^k:=(by omega);refine Xx (k:=k+j) ?_ ?_
 ·rw[jo];have:=Nat.mul_le_mul_left (2^k) dg;simp only[CV] at this;omega
 ·rw[mC,jo] at*;have:=Nat.mul_le_mul_left (2^k) (show n+1<=2^j*2 by omega);rw[Nat.mul_add,Nat.mul_one,<-tV] at this;omega
theorem Ts {l:List Int} (ai:bi l) (ah:ec l) (ag:l.length<=10000000):Dl (l,())=some ((aU (af l).toNat:Int),()):=by
 unfold Dl;simp only[wG,cC];split
 ·rename_i h;subst h;rfl
 ·rename_i h;have aw:0<l.length:=J8.2 h;have aA:aQ (aS l-1)=((l.length-1:Nat):Int):=(by simp only[bL];rw[b4 (by omega) (by omega)];omega);rw[aA,dC (by omega)];have ab:=ai.get (n:=l.length-1) (by omega);have aV:l[l.length-1]≠0:=ah _ (by rw[List.getLast?_eq_getElem?,cr (by omega)]);have ac:af l=af (l.take (l.length-1))+a9 (l.length-1)*l[l.length-1]:=by
   rw[<-h6 (by omega),dW (by omega)]
  have aL:=akB (l:=l.take (l.length-1)) (x:=l[l.length-1]) (ai.take _) (by omega);rw[eW,hU (by omega),<-ac] at aL;rw[aL];obtain⟨n,iU⟩:=fL ab.1;rw[iU] at ab|-;refine aI rfl (aI (Tr (n:=n) (by omega)) ?_);have aa:aU n<=32:=es.2 (by omega);show some (aQ (aQ (((l.length-1:Nat):Int)*32)+(aU n:Int)),())=_;rw[b4 (x:=((l.length-1:Nat):Int)*32) (by omega) (by omega),b4 (by omega) (by omega)];congr 2;show _=((32*(l.length-1)+aU n:Nat):Int);omega
theorem Ah {z:Int} (a2:Fit z):vM (be z,())=some ((aU z.natAbs:Int),()):=by unfold vM;refine aI (ae4 a2) (aI (Ts (o0 z) (Mp z) (d8 a2 (by decide))) ?_);rw[ih];rfl
theorem ar2 {x t a:Nat} (ab:x=(2*a+1)*2^t) (h:x<2^32):x&&&(2^32-x)=2^t:=by
 have aw:=kM t;have aV:0<x:=(by rw[ab];exact Nat.mul_pos (by omega) aw);obtain⟨y,aB⟩:∃y,x=y+1:=⟨x-1,by omega⟩;have HE:y=2^t*(2*a)+(2^t-1):=(by have:y+1=2^t*(2*a)+2^t:=(by rw[<-aB,ab];grind);omega);have pe:x=2^t*(2*a+1)+0:=(by rw[ab,pJ];rfl);refine Nat.eq_of_testBit_eq fun i=>?_;rw[Nat.testBit_and,aB,Nat.testBit_two_pow_sub_succ (by omega),<-aB];have aA:x.testBit i=if i<t then false else(2*a+1).testBit (i-t):=by rw[pe,Nat.testBit_two_pow_mul_add _ aw];simp
 have aX:y.testBit i=if i<t then(2^t-1).testBit i else(2*a).testBit (i-t):=by rw[HE,Nat.testBit_two_pow_mul_add _ (by omega)]
 rw[aA,aX,Kb];by_cases J:i<t
 ·rw[if_pos J];simp only[Bool.false_and];exact(decide_eq_false (by omega)).symm
 ·rw[if_neg J,if_neg J];by_cases R:t=i
  ·subst R;have ac:t<32:=by
    rcases ct t 32 with ac|ac
    ·exact ac
    ·have:=tW (show 1<=2 by decide) ac;have aL:=jQ (2^t) (show 1<=2*a+1 by omega);omega
   simp[ac]
  ·obtain⟨k,ae⟩:∃k,i-t=k+1:=⟨i-t-1,by omega⟩;rw[ae,Nat.testBit_succ,Nat.testBit_succ,show(2*a+1)/2=a by omega,show 2*a/2=a by omega,decide_eq_false R];cases a.testBit k<;>simp
theorem akP:∀t:Nat,t<32->bf uc (2^t*125613361 %4294967296/2^(27:Int).toNat)=some (t:Int):=by have h:(List.range 32).all (fun t=>bf uc (2^t*125613361 %4294967296/2^(27:Int).toNat)==some (t:Int))=true:=(by decide+kernel);intro n ag;have:=fM.1 h n (j9.2 ag);exact eq_of_beq this
theorem afd {n:Nat} (aV:0<n) (h:n<4294967296) (M:Int):dt (ed IntKind.u32 (n:Int) (dt (0-(n:Int)))*M)=2^cP n*M %4294967296:=by obtain⟨a,aC⟩:=Cq aV;have aA:dt (0-(n:Int))=((2^32-n:Nat):Int):=(by rw[tE];omega);have aX:((2^cP n:Nat):Int)=2^cP n:=(by simp);rw[aA,WW h (by omega),ar2 aC h,tE,aX]
theorem afe {n:Nat} (aV:0<n) (h:n<4294967296):Do ((n:Int),())=some ((cP n:Int),()):=by have ah:cP n<32:=jn (Cp aV) (es.2 h);have J:=akP _ ah;have R:=Vk (x:=dt (ed IntKind.u32 (n:Int) (dt (0-(n:Int)))*125613361)) (y:=27) (by decide) (by decide);rw[afd aV h 125613361] at R;unfold Do;show(bif (n:Int)==0 then some (32,()) else(d6 IntKind.u32 (dt (ed IntKind.u32 (n:Int) (dt (0-(n:Int)))*125613361)) 27).bind fun dU=>(bf uc dU).bind fun gO=>some (aQ gO,()))=_;rw[c1 (by rw[eY];exact a1 (by omega)),afd aV h 125613361,R];refine aI rfl (aI J ?_);rw[b4 (by omega) (by omega)]
theorem aff {l:List Int} {x:Int} {i:Nat} (a2:af (l.take i)=0) (hi:i<l.length) (ai:bi l) (aV:l[i]≠0):cP (af l).toNat=32*i+cP (l[i]).toNat:=by
 have ab:=ai.get hi;rw[sc l i (by omega),a2,n1 hi];have hr:=ej (ai.drop (i+1));generalize af (l.drop (i+1))=r at*;generalize l[i]=y at*;obtain⟨n,rfl⟩:=fL ab.1;obtain⟨m,rfl⟩:=fL hr;have ag:0<n:=(by omega);obtain⟨a,aC⟩:=Cq ag;have ah:cP n<32:=jn (Cp ag) (es.2 (by omega));have aw:a9 i=((2^(32*i):Nat):Int):=(by unfold a9;rw[Nat.pow_mul];simp);have e:(0+a9 i*((n:Int)+4294967296*(m:Int))).toNat=(n+4294967296*m)*2^(32*i):=(by rw[aw,Int.zero_add,pJ (n+4294967296*m)];have:((2^(32*i):Nat):Int)*((n:Int)+4294967296*(m:Int))=((2^(32*i)*(n+4294967296*m):Nat):Int):=(by rw[oL];simp);rw[this];rfl);show cP (0+a9 i*((n:Int)+4294967296*(m:Int))).toNat=32*i+cP n;rw[e,azr (by omega),Nat.add_comm];congr 1;obtain⟨d,aP⟩:∃d,32=cP n+(d+1):=⟨31-cP n,by omega⟩;refine Jz (a:=a+2^d*m) ?_;have aX:(4294967296:Nat)=2^cP n*(2^d*2):=by
  have:(4294967296:Nat)=2^32:=rfl;rw[this]
  conv=>lhs;rw[aP]
  rw[jo,mC]
 rw[aX]
 conv=>lhs;lhs;rw[aC]
 grind
theorem afg {z:Int} (a2:Fit z) (aV:z≠0):F9 (be z,())=some ((cP z.natAbs:Int),()):=by
 unfold F9;dsimp only;have ai:=o0 z;have hv:=ih z;have ag:(be z).2.1.length<=31250:=a2;generalize(be z).2.1=l at*;have ld:z.natAbs=(af l).toNat:=(by omega);rw[ld];refine U.eq_iff.1 (U.bJ (P:=fun q=>match q with|.inl _=>False|.inr r=>r=((cP (af l).toNat:Int),())) ?_ ?_)
 ·refine U.steps l.length (fun i s=>s=((i:Int),())/\af (l.take i)=0) ⟨rfl,rfl⟩ ?_ ?_
  ·rintro i _ hi ⟨rfl,J⟩;have ab:=ai.get hi;simp only[a8 (show(i:Int)<aS l by simp only[bL];omega),cond_true,dC hi,bq,ee];by_cases hc:l[i]=0
   ·simp only[a8 hc,mw,cond_false];refine U.ar.2 ⟨by rw[cO (by omega)],?_⟩;rw[h6 hi,hc,J];simp
   ·simp only[a1 hc,oH,cond_true];have R:=aff (x:=0) J hi ai hc;rw[R];obtain⟨n,iU⟩:=fL ab.1;rw[iU] at ab hc|-;have ah:cP n<32:=jn (Cp (by omega)) (es.2 (by omega));refine U.of_eq (aI (afe (n:=n) (by omega) (by omega)) rfl) ?_;show(aQ (aQ ((i:Int)*32)+(cP n:Int)),())=_;rw[b4 (x:=(i:Int)*32) (by omega) (by omega),b4 (by omega) (by omega)];congr 1;show _=((32*i+cP n:Nat):Int);omega
  ·rintro _ ⟨rfl,J⟩;exfalso;rw[dW (bU _)] at J;omega
 ·rintro(q|q) aj
  ·exact aj.elim
  ·have aj:q=_:=aj;rw[aj];exact U.ar.2 rfl
theorem lR (k:Nat):((2^k:Nat):Int)=(2:Int)^k:=by simp
theorem lj (k:Nat):(0:Int)<2^k:=vl (by decide)
theorem B2 {p:Nat} (h:p<=31):(2:Int)^p<=2147483648:=by have J:=tW (show 0<2 by decide) h;rw[<-lR];omega
theorem B1 {p:Nat} (aw:p<=32):(4294967296:Int)=2^p*2^(32-p):=by rw[<-pG,show p+(32-p)=32 by omega];rfl
theorem vi (w:Nat):a9 w=2^(32*w):=by unfold a9;rw[Int.pow_mul];rfl
theorem avT {k:Nat} {x y:Int} (ae:k<=32) (J:0<=x) (R:x<2^k) (ac:0<=y) (aY:y<4294967296) (aP:y %2^k=0):fF .u32 x y=x+y/\x+y<4294967296:=by
 have aw:=lj k;have hs:=B1 ae;have aj:=lj (32-k);have ak:y=2^k*(y/2^k):=(by have:=jM y (2^k);omega);have ca:y/2^k<2^(32-k):=by
  rcases iO (y/2^k) (2^(32-k)) with h|h
  ·exact h
  ·have:=kI h (eM aw);omega
 have fb:2^k*(y/2^k+1)<=2^k*2^(32-k):=kI (by omega) (eM aw);have aE:(2:Int)^k*(y/2^k+1)=2^k*(y/2^k)+2^k:=(by grind);have yI:x+y<4294967296:=(by omega);refine⟨?_,yI⟩;obtain⟨n,rfl⟩:=fL J;obtain⟨m,rfl⟩:=fL ac;have ag:n<2^k:=(by have:((n:Nat):Int)<((2^k:Nat):Int):=(by simpa using R);omega);have jz:m %2^k=0:=(by have:((m %2^k:Nat):Int)=0:=(by simpa using aP);omega);rw[avR (by omega) (by omega)];have bG:m=(m/2^k)*2^k:=(by have:=vx m (2^k);rw[jz,pJ] at this;omega);rw[bG,WZ k ag];simp
theorem Pc {a:List Int} {n:Nat} (aC:bi a) (kY:a.length<=10000000) (ag:n<=100000000):AB (a,(n:Int),())=some (c6 (af a*2^n).toNat,()):=by
 unfold AB;simp only[wG,cC];split
 ·rename_i h;subst h;simp[af];rfl
 refine U.eq_iff.1 ?_;obtain⟨w,p,hw,aw,aj,hr⟩:∃w p:Nat,n=32*w+p/\p<32/\ip IntKind.i64 (n:Int) 32=some (w:Int)/\ji (n:Int) 32=some (p:Int):=by
  refine⟨n/32,n %32,by omega,by omega,?_,?_⟩
  ·unfold ip;rw[if_pos (by decide),Ft (by omega),wrap64 (by omega) (by omega)];simp
  ·unfold ji;rw[if_pos (by decide),J5 (by omega)];simp
 have g8:=lj p;have bE:=B1 (p:=p) (by omega);have ek:bN (aQ ((w:Int)+aS a))=((w+a.length+1:Nat):Int):=(by simp only[bL];rw[b4 (by omega) (by omega),show(w:Int)+(a.length:Int)=((w+a.length:Nat):Int) by simp,cO (by omega)]);rw[aj,hr,bq,bq,ek,jZ (by omega),bq];refine U.bJ (P:=fun r=>∃out,r=(out,())/\out.length=w+a.length+1/\bi out/\af out=a9 w*(2^p*af a)) ?_ ?_
 ·refine U.steps a.length (fun i s=>∃out,s=((i:Int),out,())/\out.length=w+a.length+1/\bi out/\js out (w+i+1)/\(∀h:w+i<out.length,out[w+i]<2^p)/\af out=a9 w*(2^p*af (a.take i))) ⟨_,rfl,by simp,bi.n3 _,js.n3 _ _,fun h=>by simp;exact g8,by simp[af,tC]⟩ ?_ ?_
  ·rintro i _ hi ⟨out,rfl,aN,aM,bb,bH,dv⟩;have ab:=aC.get hi;have aJ:=aM.get (n:=w+i) (by omega);have Hr:=bH (by omega);dsimp only;rw[if_pos (show(i:Int)<aS a by simp only[bL];omega),dC hi,Option.bind_some];have aA:aQ ((w:Int)+(i:Int))=((w+i:Nat):Int):=(by rw[b4 (by omega) (by omega)];simp);have ca:a[i]*2^p<4294967296*2^p:=Int.mul_lt_mul_of_pos_right ab.2 g8;have MN:(2:Int)^p<=2147483648:=B2 (by omega);obtain⟨t,ah,t0,t1⟩:∃t,t=a[i]*2^p/\0<=t/\t<18446744073709551616:=⟨_,rfl,Int.mul_nonneg ab.1 (Int.le_of_lt g8),by omega⟩;have aX:iq IntKind.u64 (bc a[i]) (bc (p:Int))=some t:=by
    rw[dr (x:=a[i]) (by omega) (by omega),dr (x:=(p:Int)) (by omega) (by omega),q1 (by omega) (by omega),d7,<-ah];congr 1;omega
   have bY:t %4294967296 %2^p=0:=(by rw[Int.emod_emod_of_dvd _ ⟨_,bE⟩,ah,Int.mul_emod_left]);have e7:t/4294967296<2^p:=(by refine vj (by decide) ?_;rw[jl];omega);obtain⟨pO,uh⟩:=avT (k:=p) (x:=out[w+i]) (y:=t %4294967296) (by omega) aJ.1 Hr (by omega) (by omega) bY;rw[aX];simp only[bq];rw[aA,oC (by omega),wH t0 t1,pO,m8 (by omega),qe,bq,cO (by omega),m7 (by omega) (by omega),m8 (by simp;omega)];refine U.ar.2 ⟨(out.set (w+i) (out[w+i]+t %4294967296)).set (w+i+1) (t/4294967296),by rw[cO (by omega)],by simp[aN],(aM.set (by omega) (by omega)).set (by omega) (by omega),?_,?_,?_⟩
   ·have:=(bb.Vh (out[w+i]+t %4294967296) (j:=w+i) (by omega)).set (t/4294967296);exact this
   ·intro h;show((out.set (w+i) (out[w+i]+t %4294967296)).set (w+i+1) (t/4294967296))[w+i+1]'h<2^p
    rw[List.getElem_set_self];exact e7
   ·have z:(out.set (w+i) (out[w+i]+t %4294967296))[w+i+1]'(by simp;omega)=0:=by
     rw[zV (by omega)];exact bb _ (by omega) (by omega)
    rw[pC (by simp;omega),z,pC (by omega),dv,h6 hi,ia,zM];have Mk:=jM t 4294967296;generalize t/4294967296=q at*;generalize t %4294967296=r at*;generalize(2:Int)^p=P at*;generalize a[i]=y at*;generalize out[w+i]=o at*;have vY:r=y*P-4294967296*q:=(by omega);subst vY;grind
  ·rintro _ ⟨out,rfl,aN,aM,bb,bH,dv⟩;dsimp only;rw[if_neg (show¬((a.length:Int)<aS a) by simp only[bL];omega)];refine U.ar.2 ⟨out,rfl,aN,aM,?_⟩;rw[dv,List.take_of_length_le (Nat.le_refl _)]
 ·rintro _ ⟨out,rfl,aN,aM,bb⟩;refine U.of_eq (aI (r9 aM (by show out.length<=_;omega)) rfl) ?_;show(hz out,())=_;rw[hz,bb,vi,hw,pG];congr 3;grind
theorem alD {l:List Int} (ai:bi l) (ag:l.length<=10000000):Gc (l,(),())=some (decide (af l≠0),()):=by
 unfold Gc;refine U.eq_iff.1 ?_;refine U.bJ (P:=fun r=>∃x,r=(x,())/\(0<=x↔af l≠0)) ?_ ?_
 ·unfold Qy;dsimp only;refine U.bJ (P:=fun q=>match q with|.inl _=>af l=0|.inr r=>0<=r.1/\af l≠0) ?_ ?_
  ·refine U.steps l.length (fun i s=>s=((i:Int),())/\af (l.take i)=0) ⟨rfl,rfl⟩ ?_ ?_
   ·rintro i _ hi ⟨rfl,J⟩;have ab:=ai.get hi;simp only[a8 (show(i:Int)<aS l by simp only[bL];omega),cond_true,dC hi,bq,Qs,ee];by_cases hc:l[i]=0
    ·simp only[a8 hc,mw,cond_false];refine U.ar.2 ⟨by rw[cO (by omega)],?_⟩;rw[h6 hi,hc,J];simp
    ·simp only[a1 hc,oH,cond_true];refine U.ar.2 ⟨by show(0:Int)<=(i:Int);omega,?_⟩;rw[sc l i (by omega),J,n1 hi];have R:=ej (ai.drop (i+1));have ac:0<a9 i*(l[i]+4294967296*af (l.drop (i+1))):=vk (eU i) (by omega);omega
   ·rintro _ ⟨rfl,J⟩;simp only[a1 (show¬((l.length:Int)<aS l) by simp only[bL];omega),cond_false];refine U.ar.2 ?_;rw[dW (bU _)] at J;exact J
  ·rintro(q|q) aj
   ·have aj:af l=0:=aj;exact U.ar.2 ⟨_,rfl,by rw[aj];simp⟩
   ·obtain⟨J,R⟩:0<=q.1/\af l≠0:=aj;exact U.ar.2 ⟨q.1,rfl,fun _=>R,fun _=>J⟩
 ·rintro _ ⟨x,rfl,ab⟩;refine U.ar.2 ?_;show(decide (x>=0),())=_;congr 1;rw[decide_eq_decide];exact ab
theorem WY (k:Nat) {x:Int} (J:0<=x) (R:x<4294967296) (ae:k<=32):ed .u32 x (2^k-1)=x %2^k:=by obtain⟨n,rfl⟩:=fL J;have aw:0<2^k:=kM k;have ac:(2:Int)^k-1=((2^k-1:Nat):Int):=(by rw[Int.natCast_sub aw];simp);have aL:2^k<=2^32:=tW (by decide) ae;rw[ac,WW (by omega) (by omega),Nat.and_two_pow_sub_one_eq_mod];simp
theorem abB {x b y:Int} {P P':Int} (aa:0<b) (ab:0<=x/\x<b) (g8:0<P):(x+b*y) %(b*P)=0↔x=0/\y %P=0:=by
 constructor
 ·intro h;have J:x=0:=by
   have R:(x+b*y) %b=0:=(by have:=Int.emod_emod_of_dvd (x+b*y) (show b∣b*P from⟨P,rfl⟩);rw[h] at this;simpa using this.symm);rw[Fs,xE ab.1 ab.2] at R;exact R
  subst J;rw[Int.zero_add,Int.mul_emod_mul_of_pos _ _ aa] at h;exact⟨rfl,by rcases Int.mul_eq_zero.1 h with ac|ac;omega;exact ac⟩
 ·rintro⟨rfl,h⟩;rw[Int.zero_add,Int.mul_emod_mul_of_pos _ _ aa,h,Int.mul_zero]
theorem QJ {a:List Int} {n:Nat} (aC:bi a) (ta:ec a) (kY:a.length<=10000000) (ag:n<=1000000000):Dk (a,(n:Int),())=some (c6 (af a/2^n).toNat,decide (af a %2^n≠0),()):=by
 unfold Dk;dsimp only;refine U.eq_iff.1 ?_;obtain⟨w,p,hw,aw,aj,hr⟩:∃w p:Nat,n=32*w+p/\p<32/\ip IntKind.i64 (n:Int) 32=some (w:Int)/\ji (n:Int) 32=some (p:Int):=by
  refine⟨n/32,n %32,by omega,by omega,?_,?_⟩
  ·unfold ip;rw[if_pos (by decide),Ft (by omega),wrap64 (by omega) (by omega)];simp
  ·unfold ji;rw[if_pos (by decide),J5 (by omega)];simp
 have g8:=lj p;have bE:=B1 (p:=p) (by omega);have RO:(2:Int)^n=a9 w*2^p:=(by rw[vi,hw,pG]);have s2:=ej aC;rw[aj,hr,bq,bq,cC,RO];refine U.ite (fun h=>?_) fun h=>?_
 ·have h:a.length<=w:=(by simp only[bL] at h;omega);have J:=gU aC;have R:=tp h;have ac:a9 w*1<=a9 w*2^p:=kI (by omega) (eM (eU w));rw[tK s2 (by omega),xE s2 (by omega)];refine U.ar.2 ?_;show(([]:List Int),decide (aS a>0),())=(c6 0,_,());rw[Q2];congr 2;rw[decide_eq_decide];simp only[bL];constructor
  ·intro aL aY;have:=ec.zero aC ta aY;rw[this] at aL;simp at aL
  ·intro aL;have:a≠[]:=fun e=>(by rw[e] at aL;exact aL rfl);have:=J8.2 this;omega
 ·have h:w<a.length:=(by simp only[bL] at h;omega);have ab:=aC.get h;obtain⟨X,iC⟩:∃X,X=af (a.drop w):=⟨_,rfl⟩;have uu:0<=X:=(by rw[iC];exact ej (aC.drop w));have me:af a=af (a.take w)+a9 w*X:=(by rw[iC];exact sc a w (by omega));have gp:=ej (aC.take w);have wl:=gU (aC.take w);rw[eW,hU (by omega)] at wl;have RS:af a/(a9 w*2^p)=X/2^p:=by
   rw[<-zN (eM (eU w)),me,CO _ _ (by have:=eU w;omega),tK gp wl,Int.zero_add]
  refine U.bJ (P:=fun r=>r=(decide (af a %(a9 w*2^p)≠0),())) ?_ ?_
  ·rw[OW (by omega),bq];have aA:List.drop 0 (List.take w a)=a.take w:=qh;show U ((Gc (List.drop 0 (List.take w a),(),())).bind _) _;rw[aA,alD (aC.take w) (by simp;omega),bq];have ai:(decide (af a %(a9 w*2^p)≠0))=(decide (af (a.take w)≠0)||decide (a[w] %2^p≠0)):=by
    have J:=abB (x:=af (a.take w)) (b:=a9 w) (y:=X) (P:=2^p) (P':=0) (eU w) ⟨gp,wl⟩ g8;rw[<-me] at J;have R:X %2^p=a[w] %2^p:=(by rw[iC,n1 h,bE,ra,Fs]);rw[R] at J;by_cases bS:af (a.take w)=0<;>by_cases bt:a[w] %2^p=0<;>simp[bS,bt,J]
   rw[ai];dsimp only;by_cases bS:af (a.take w)=0
   ·simp only[a1 (show¬(af (a.take w)≠0) from fun h=>h bS),beq_self_eq_true,cond_true,dC h,bq];rw[dr (x:=(p:Int)) (by omega) (by omega),aeH (by omega) (by omega),bq,d7,Int.one_mul];have MN:(2:Int)^p<=2147483648:=B2 (by omega);rw[xE (by omega) (by omega),m7 (by omega) (by omega),WY p ab.1 ab.2 (by omega),ee];refine U.ar.2 ?_;simp
   ·simp only[a8 (show af (a.take w)≠0 from bS)];exact U.ar.2 rfl
  rintro _ rfl;dsimp only;obtain⟨m,ak⟩:∃m,a.length=w+m:=⟨a.length-w,by omega⟩;have ek:aQ (aS a-(w:Int))=((m:Nat):Int):=(by simp only[bL];rw[b4 (by omega) (by omega)];omega);rw[ek,jZ (by omega),Option.bind_some];have aoF:X<a9 m:=(by have:=gU (aC.drop w);rw[List.length_drop,show a.length-w=m by omega,<-iC] at this;exact this);refine U.bJ (P:=fun r=>∃out,r=(out,())/\out.length=m/\bi out/\af out=X/2^p) ?_ ?_
  ·refine U.steps m (fun i s=>∃out,s=((i:Int),out,())/\out.length=m/\bi out/\af (out.take i)+a9 i*(X/2^p/a9 i)=X/2^p) ⟨_,rfl,by simp,bi.n3 _,by simp[af,Fo]⟩ ?_ ?_
   ·rintro i _ hi ⟨out,rfl,aN,aM,bb⟩;have ab:=aC.get (n:=w+i) (by omega);have aB:=aC.getD (w+i+1);have ai:decide ((i:Int)<aS (List.replicate m (0:Int)))=true:=a8 (by simp only[bL,vv];omega);have aA:aQ ((w:Int)+(i:Int))=((w+i:Nat):Int):=(by rw[b4 (by omega) (by omega)];simp);have aX:bN ((w+i:Nat):Int)=((w+i+1:Nat):Int):=cO (by omega);simp only[ai,cond_true,aA,aX,dC (show w+i<a.length by omega),bq];obtain⟨t,ah,t0,t1⟩:∃t,t=a[w+i]+4294967296*a.getD (w+i+1) 0/\0<=t/\t<18446744073709551616:=⟨_,rfl,by omega,by omega⟩;have bm:X/a9 i=t+4294967296*(4294967296*af (a.drop (w+i+2))):=by
     have J:a.drop w=(a.drop w).take i++a.drop (w+i):=by
      conv=>lhs;rw[<-oQ i (a.drop w)]
      rw[tP]
     have R:X=af ((a.drop w).take i)+a9 i*af (a.drop (w+i)):=by
      rw[iC]
      conv=>lhs;rw[J]
      rw[n0,eW,oO,hU (by omega)]
     have ac:=ej ((aC.drop w).take i);have aL:=gU ((aC.drop w).take i);rw[eW,oO,hU (by omega)] at aL;have aY:af (a.drop (w+i))=a[w+i]+4294967296*af (a.drop (w+i+1)):=n1 (by omega);have bG:af (a.drop (w+i+1))=a.getD (w+i+1) 0+4294967296*af (a.drop (w+i+2)):=by
      rcases ct (w+i+1) a.length with g|g
      ·rw[mJ g];exact n1 g
      ·rw[rz g,tQ g,tQ (by omega)];rfl
     rw[R,CO _ _ (by have:=eU i;omega),tK ac aL,aY,bG,ah];grind
    have MR:X/2^p/a9 i %4294967296=t/2^p %4294967296:=(by have J:X/2^p/a9 i=X/a9 i/2^p:=(by rw[zN (eM g8),zN (eM (eU i)),jl]);rw[J,bm];have R:∀Y:Int,t+4294967296*(4294967296*Y)=t+2^p*(4294967296*(2^(32-p)*Y)):=fun Y=>(by generalize(2:Int)^p=P at*;generalize(2:Int)^(32-p)=P' at*;rw[show(4294967296:Int)*(4294967296*Y)=(P*P')*(4294967296*Y) by rw[<-bE]];grind);rw[R,CO _ _ (by omega),Fs]);have fY:0<=t/2^p:=oJ t0 (eM g8);have kU:t/2^p<=t:=zO _ t0;refine U.bJ (P:=fun r=>r=(out.set i (t/2^p %4294967296),())) ?_ ?_
    ·refine U.bJ (P:=fun r=>r=(t,out,())) ?_ ?_
     ·simp only[cC];refine U.ite (fun g=>?_) fun g=>?_
      ·have g:w+i+1<a.length:=(by simp only[bL] at g;omega);rw[dC g,bq,dr (x:=a[w+i+1]) (by have:=aC.get g;omega) (by have:=aC.get g;omega),q1 (by decide) (by decide)];rw[mJ g] at ah aB;have pO:a[w+i+1]*2^(32:Int).toNat %18446744073709551616=4294967296*a[w+i+1]:=by
        rw[show(2:Int)^(32:Int).toNat=4294967296 from rfl];omega
       rw[bq,pO,dr (by omega) (by omega),p4 32 ab.1 ab.2 (by omega) (by omega) (by omega) (by omega)];refine U.ar.2 ?_;rw[<-ah]
      ·have g:a.length<=w+i+1:=(by simp only[bL] at g;omega);rw[rz g] at ah;rw[dr (by omega) (by omega)];refine U.ar.2 ?_;rw[ah];simp
     ·rintro _ rfl;dsimp only;rw[dr (x:=(p:Int)) (by omega) (by omega),zt (by omega) (by omega),Option.bind_some,Int.toNat_natCast,wH fY (by omega),m8 (by omega)];exact U.ar.2 rfl
    ·rintro _ rfl;dsimp only;refine U.ar.2 ⟨out.set i (t/2^p %4294967296),by rw[cO (by omega)],by simp[aN],aM.set (by omega) (by omega),?_⟩;rw[h6 (by simp;omega)];simp only[List.getElem_set_self];rw[List.take_set_of_le (by omega),<-MR,ia,Int.mul_comm 4294967296 (a9 i),<-Int.ediv_ediv_of_nonneg (Int.le_of_lt (eU i))];have eF:=Int.emod_add_mul_ediv (X/2^p/a9 i) 4294967296;generalize X/2^p/a9 i %4294967296=r at*;generalize X/2^p/a9 i/4294967296=q at*;rw[<-eF] at bb;grind
   ·rintro _ ⟨out,rfl,aN,aM,bb⟩;simp only[a1 (show¬((m:Int)<aS (List.replicate m (0:Int))) by simp only[bL,vv];omega),cond_false];refine U.ar.2 ⟨out,rfl,aN,aM,?_⟩;have J:0<=X/2^p:=oJ uu (eM g8);have R:X/2^p<=X:=zO _ uu;rw[tK J (by omega),dW (by omega)] at bb;simpa using bb
  ·rintro _ ⟨out,rfl,aN,aM,bb⟩;refine U.of_eq (aI (r9 aM (by show out.length<=_;omega)) rfl) ?_;show(hz out,_,())=_;rw[hz,bb,RS]
section
theorem IR (k:IntKind) (x y:Int):fF k x y=fF k y x:=by unfold fF;rw[BitVec.or_comm]
theorem O7 {x y:Int} (ab:0<=x/\x<4294967296) (aB:0<=y/\y<4294967296):iq .u64 x 32=some (4294967296*x)/\fF .u64 (4294967296*x) (bc y)=4294967296*x+y:=by
 constructor
 ·rw[q1 (by decide) (by decide),show(2:Int)^(32:Int).toNat=4294967296 from rfl];congr 1;omega
 ·rw[dr aB.1 (by omega),IR,p4 32 aB.1 aB.2 (by omega) (by omega) (by omega) (by omega),Int.add_comm]
theorem OB {x y:Int} (ab:0<=x/\x<18446744073709551616) (aB:0<y):ip .u64 x y=some (x/y)/\ji x y=some (x %y):=by
 constructor
 ·unfold ip;rw[if_pos (by omega),Ft ab.1];have J:x/y<=x:=zO _ ab.1;have R:0<=x/y:=oJ ab.1 (by omega);rw[Pm R (by omega)]
 ·unfold ji;rw[if_pos (by omega),J5 ab.1]
theorem ayz {a:List Int} {d:Int} (aC:bi a) (kY:a.length<=10000000) (aP:0<d) (k7:d<4294967296):Lj (a,d,())=some (c6 (af a/d).toNat,af a %d,()):=by
 unfold Lj;refine U.eq_iff.1 ?_;simp only[bL,jZ (show a.length<=4294967296 by omega),bq];refine U.bJ (P:=fun r=>∃out,r=(af a %d,out,())/\out.length=a.length/\bi out/\af out=af a/d) ?_ ?_
 ·refine U.steps a.length (fun i s=>∃out,s=(af (a.drop (a.length-i)) %d,((a.length:Nat):Int)-1-i,out,())/\out.length=a.length/\bi out/\(∀k,k<a.length-i->(ae:k<out.length)->out[k]=0)/\af out=a9 (a.length-i)*(af (a.drop (a.length-i))/d)) ⟨List.replicate a.length 0,?_,by simp,bi.n3 _,by simp,?_⟩ ?_ ?_
  ·rw[b4 (by omega) (by omega),tQ (by omega)];simp[af]
  ·rw[tQ (by omega)];simp[af,tC]
  ·rintro i _ hi ⟨out,rfl,aN,aM,bb,bH⟩;obtain⟨k,ae⟩:∃k,a.length=k+1+i:=⟨a.length-1-i,by omega⟩;have aA:((a.length:Nat):Int)-1-(i:Int)=(k:Int):=(by omega);have qM:k<a.length:=(by omega);rw[show a.length-i=k+1 by omega] at*;have ab:=aC.get qM;obtain⟨X,iC⟩:∃X,X=af (a.drop (k+1)):=⟨_,rfl⟩;have uu:0<=X:=(by rw[iC];exact ej (aC.drop _));rw[<-iC] at bH|-;have md:0<=X %d:=q9 _ (by omega);have kB:X %d<d:=tL _ aP;obtain⟨t1,t2⟩:=O7 (x:=X %d) (y:=a[k]) ⟨md,by omega⟩ ab;obtain⟨t3,t4⟩:=OB (x:=4294967296*(X %d)+a[k]) (y:=d) ⟨by omega,by omega⟩ aP;have aj:(4294967296*(X %d)+a[k])/d<4294967296:=by
    refine vj aP ?_;have:4294967296*(X %d)+a[k]<4294967296*(X %d+1):=(by omega);have R:4294967296*(X %d+1)<=4294967296*d:=(by omega);omega
   have fY:0<=(4294967296*(X %d)+a[k])/d:=oJ (by omega) (by omega);simp only[aA,a8 (show(k:Int)>=0 by omega),cond_true,dC qM,t1,bq];rw[t2,dr (x:=d) (by omega) (by omega),t3,bq,m7 fY aj,m8 (by omega),t4,bq];have mP:=jM X d;have hv:af (a.drop k)=a[k]+4294967296*X:=(by rw[iC];exact n1 qM);have ak:af (a.drop k)=(4294967296*(X %d)+a[k])+d*(4294967296*(X/d)):=(by rw[hv];generalize X/d=q at*;generalize X %d=r at*;rw[<-mP];grind);refine U.ar.2 ⟨out.set k ((4294967296*(X %d)+a[k])/d),?_,by simp[aN],aM.set fY aj,?_,?_⟩
   ·rw[show a.length-(i+1)=k by omega,b4 (by omega) (by omega),ak,Fs];congr 2;omega
   ·intro bD J R;rw[zV (by omega)];exact bb bD (by omega) (by simpa using R)
   ·rw[show a.length-(i+1)=k by omega,ak,CO _ _ (by omega),pC (by omega),bb k (by omega) (by omega),bH,ia];grind
  ·rintro _ ⟨out,rfl,aN,aM,bb,bH⟩;have aA:¬(((a.length:Nat):Int)-1-(a.length:Int)>=0):=(by omega);simp only[a1 aA,cond_false];rw[Nat.sub_self] at bH;refine U.ar.2 ⟨out,by simp,aN,aM,?_⟩;rw[bH,Fo];simp
 ·rintro _ ⟨out,rfl,aN,aM,bb⟩;have J:af a %d<d:=tL _ aP;have aV:0<=af a %d:=q9 _ (by omega);refine U.of_eq (aI (r9 aM (by show out.length<=_;omega)) rfl) ?_;show(hz out,dt (af a %d),())=_;rw[hz,bb,m7 aV (by omega)]
section
variable {α aT:Type}
theorem vC {A w C:List α} {k:Nat} (h:k<w.length) (f:α->Option aT):cb (A++(w++C)) (A.length+k) f=f w[k]:=by refine vD ?_;rw[tR (by omega),sn,sk h,cr h]
theorem Jp {A w C:List α} {k:Nat} (h:k<w.length) (x:α):(A++(w++C)).set (A.length+k) x=A++(w.set k x++C):=by rw[List.set_append_right _ _ (by omega),sn,List.set_append_left _ _ h]
end
theorem amS {q v1 gz V kr top eS W t6 FF:Int} (k5:0<W) (c4:V=(v1*4294967296+gz)*W+t6) (us:kr=(top*4294967296+eS)*W+FF) (Zx:0<=t6) (aoC:FF<W) (aV:0<=q) (h:(top-q*v1)*4294967296+eS<q*gz):kr<q*V:=by have J:top*4294967296+eS+1<=q*(v1*4294967296+gz):=(by grind);have R:(top*4294967296+eS+1)*W<=q*(v1*4294967296+gz)*W:=oK J (by omega);have ac:0<=q*t6:=qg aV Zx;have aL:q*V=q*(v1*4294967296+gz)*W+q*t6:=(by rw[c4];grind);have aY:(top*4294967296+eS+1)*W=(top*4294967296+eS)*W+W:=(by grind);omega
theorem amT {q v1 gz V kr top eS W t6 FF:Int} (k5:0<W) (c4:V=(v1*4294967296+gz)*W+t6) (us:kr=(top*4294967296+eS)*W+FF) (Zx:0<=t6/\t6<W) (aoC:0<=FF) (aV:0<=q/\q<4294967296) (Nn:1<=v1) (ld:0<=gz) (h:q*gz<=(top-q*v1)*4294967296+eS):q*V<kr+V:=by have J:q*(v1*4294967296+gz)<=top*4294967296+eS:=(by grind);have R:q*(v1*4294967296+gz)*W<=(top*4294967296+eS)*W:=oK J (by omega);have ac:q*t6<=q*W:=kI (by omega) aV.1;have aL:q*V=q*(v1*4294967296+gz)*W+q*t6:=(by rw[c4];grind);have aY:q*W<=4294967295*W:=oK (by omega) (by omega);have bG:4294967296*W<=(v1*4294967296+gz)*W:=oK (by omega) (by omega);omega
end
theorem Pj {l:List Int} {m:Nat} (h:l.length=m+2):af l=(l[m+1]*4294967296+l[m])*a9 m+af (l.take m):=by have J:af l=af (l.take (m+1))+a9 (m+1)*l[m+1]:=(by rw[<-h6 (by omega),dW (by omega)]);rw[J,h6 (by omega),ia];grind
theorem azK {l:List Int} {m:Nat} (h:l.length=m+3):af l=((l[m+2]*4294967296+l[m+1])*4294967296+l[m])*a9 m+af (l.take m):=by have J:af l=af (l.take (m+2))+a9 (m+2)*l[m+2]:=(by rw[<-h6 (by omega),dW (by omega)]);rw[J,h6 (by omega),h6 (by omega)];simp only[ia];grind
structure Fq (v w:List Int) (n:Nat):Prop where
 hv:bi v
 hw:bi w
 zB:v.length=n+2
 wn:w.length=n+3
 N9:n<=10000000
 top:2147483648<=v[n+1]
 lt:af w<4294967296*af v
theorem Fq.afx {v w:List Int} {n:Nat} (h:Fq v w n):0<af v:=by
 have J:=Pj h.zB;have R:=ej (h.hv.take n);have ac:=h.hv.get (n:=n) (by have:=h.zB;omega);have aL:=h.top;have aY:0<(v[n+1]'(by have:=h.zB;omega)*4294967296+v[n]'(by have:=h.zB;omega))*a9 n:=vk (by omega) (eU n)
 omega
theorem amU {A w C v:List Int} {n:Nat} (h:Fq v w n) {mm B6:Int} (aj:mm=(4294967296*w[n+2]'(by have:=h.wn;omega)+w[n+1]'(by have:=h.wn;omega))/v[n+1]'(by have:=h.zB;omega)) (hr:B6=(4294967296*w[n+2]'(by have:=h.wn;omega)+w[n+1]'(by have:=h.wn;omega)) %v[n+1]'(by have:=h.zB;omega)):U (loop (σ:=(aCv×Int×Int×bx×Unit)) (ρ:=(aCv×Int×bx×Unit)) (fun(q2,tq,Cc,xl,_)=>
 Option.bind (α:=(aCv×bx×Unit)⊕((aCv×Int×Int×bx×Unit)⊕(aCv×Int×bx×Unit))) (bif decide (tq>4294967295)==false then(bf v (aQ (aS v-2))).bind fun tF=>
 (iq IntKind.u64 Cc 32).bind fun vf=>
 (cH (q2.2-q2.1) (aQ (aS v-2))).bind fun S7=>
 (cb xl (q2.1+S7) fun GP=>some GP).bind fun j7=>
  bif decide (bc (tq*bc tF)>fF IntKind.u64 vf (bc j7)) then
 some (.inl (q2,xl,())) else
 some (.inr (.inr (q2,tq,xl,()))) else some (.inl (q2,xl,()))) fun q=>match q with
 |.inl (JB,JC,_)=>(
 (
  bf v (aQ (aS v-1))).bind fun zF=>
  bif decide (bc (Cc+bc zF)>4294967295) then
 some (.inr (JB,bc (tq-1),JC,())) else
 some (.inl (JB,bc (tq-1),bc (Cc+bc zF),JC,())))
 |.inr r=>some r) ((A.length,A.length+w.length),mm,B6,A++(w++C),())) (fun r=>∃q,r=((A.length,A.length+w.length),q,A++(w++C),())/\0<=q/\q<4294967296/\af w/af v<=q/\q*af v<af w+af v):=by
 have mU:=h.zB;have yH:=h.wn;have wo:=h.N9;have om:=h.afx;have Bs:=h.hv.get (n:=n+1) (by omega);have pe:=h.hv.get (n:=n) (by omega);have uC:=h.hw.get (n:=n+2) (by omega);have s1:=h.hw.get (n:=n+1) (by omega);have qJ:=h.hw.get (n:=n) (by omega);have Nm:=h.top;have QY:=Pj mU;have Mm:=azK yH;have ch:=ej (h.hv.take n);have c8:=gU (h.hv.take n);have a3:=ej (h.hw.take n);have a4:=gU (h.hw.take n);rw[eW,hU (by omega)] at c8 a4;have ca:=h.lt;have k5:=eU n;have aA:aQ (aS v-1)=((n+1:Nat):Int):=(by simp only[bL];rw[b4 (by omega) (by omega)];omega);have aX:aQ (aS v-2)=((n:Nat):Int):=(by simp only[bL];rw[b4 (by omega) (by omega)];omega);have bS:bf v ((n+1:Nat):Int)=some v[n+1]:=dC (by omega);have bt:bf v ((n:Nat):Int)=some v[n]:=dC (by omega);have cY:∀f:Int->Option Int,cb (A++(w++C)) (A.length+n) f=f w[n]:=fun f=>vC (by omega) f;generalize Nn:v[n+1]=v1 at*;generalize ld:v[n]=gz at*;generalize aaC:w[n+2]=fB at*;generalize pd:w[n+1]=m5 at*;generalize No:w[n]=eS at*;obtain⟨h5,aau⟩:∃h5,h5=4294967296*fB+m5:=⟨_,rfl⟩;rw[<-aau] at aj hr;have Mm:af w=(h5*4294967296+eS)*a9 n+af (w.take n):=(by rw[Mm,aau];grind);have fb:fB<=v1:=by
  rcases iO v1 fB with g|g
  ·exfalso;have dg:(v1*4294967296+gz+1)*a9 n<=(v1*4294967296+4294967296)*a9 n:=oK (by omega) (by omega);have dF:((v1+1)*4294967296*4294967296)*a9 n<=(h5*4294967296+eS)*a9 n:=oK (by omega) (by omega);have hE:(v1*4294967296+gz+1)*a9 n=(v1*4294967296+gz)*a9 n+a9 n:=(by grind);have kb:((v1+1)*4294967296*4294967296)*a9 n=4294967296*((v1*4294967296+4294967296)*a9 n):=(by grind);omega
  ·exact g
 have aA9:0<=af w/af v:=oJ (ej h.hw) (by omega);have aBa:af w/af v<4294967296:=vj om ca;have aqq:0<=h5:=(by omega);have DR:=jM h5 v1;have md:0<=h5 %v1:=q9 _ (by omega);have kB:h5 %v1<v1:=tL _ (by omega);have fY:0<=h5/v1:=oJ aqq (by omega);have aky:∀q,0<=q->(h5-q*v1)*4294967296+eS<q*gz->af w/af v<q:=fun q aj h=>(by have:=amS k5 QY Mm ch a4 aj h;exact vj om this);have gm:∀q,0<=q->q<4294967296->q*gz<=(h5-q*v1)*4294967296+eS->q*af v<af w+af v:=fun q J R h=>amT k5 QY Mm ⟨ch,c8⟩ a3 ⟨J,R⟩ (by omega) pe.1 h;refine U.loop (fun s=>∃q r,s=((A.length,A.length+w.length),q,r,A++(w++C),())/\0<=q/\q<=4294967297/\0<=r/\r<4294967296/\r=h5-q*v1/\af w/af v<=q) (fun s=>s.2.1.toNat) ⟨mm,B6,rfl,by omega,?_,by omega,by omega,?_,?_⟩ ?_
 ·rw[aj];have:h5<4294967298*v1:=(by omega);have:=vj (by omega) this;omega
 ·rw[aj,hr,jl];omega
 ·rcases iO (h5/v1) (af w/af v) with g|g
  ·exfalso;have dg:(h5/v1+1)*af v<=af w:=by
    have da:(h5/v1+1)*af v<=af w/af v*af v:=oK (by omega) (by omega);have cw:=jM (af w) (af v);have ju:=q9 (af w) (show af v≠0 by omega);rw[jl (af w/af v)] at da;omega
   have dF:(h5+1)*4294967296<=(h5/v1+1)*(v1*4294967296):=(by have:(h5/v1+1)*(v1*4294967296)=(v1*(h5/v1)+v1)*4294967296:=(by grind);omega);have hE:(h5+1)*4294967296*a9 n<=(h5/v1+1)*(v1*4294967296)*a9 n:=oK dF (by omega);have kb:0<=(h5/v1+1)*(gz*a9 n+af (v.take n)):=qg (by omega) (by have:=qg pe.1 (eM k5);omega);have C4:(h5/v1+1)*af v=(h5/v1+1)*(v1*4294967296)*a9 n+(h5/v1+1)*(gz*a9 n+af (v.take n)):=(by rw[QY];grind);have aAZ:(eS+1)*a9 n<=4294967296*a9 n:=oK (by omega) (by omega);have aA0:(h5*4294967296+eS)*a9 n+a9 n=h5*4294967296*a9 n+(eS+1)*a9 n:=(by grind);have aA1:(h5+1)*4294967296*a9 n=h5*4294967296*a9 n+4294967296*a9 n:=(by grind);omega
  ·rw[aj];exact g
 rintro _ ⟨q,r,rfl,da,cw,ju,lB,sw,akW⟩;have ak:∀q,(q-1)*v1=q*v1-v1:=fun q=>(by grind);have dec:af w/af v<q->U ((bf v (aQ (aS v-1))).bind fun zF=>
  bif decide (bc (r+bc zF)>4294967295) then
 some (.inr ((A.length,A.length+w.length),bc (q-1),A++(w++C),())) else
 some (
  .inl ((A.length,A.length+w.length),bc (q-1),bc (r+bc zF),A++(w++C),()))) (fun(x:(aCv×Int×Int×bx×Unit)⊕(aCv×Int×bx×Unit))=>match x with
  |.inl s'=>(∃q r,s'=((A.length,A.length+w.length),q,r,A++(w++C),())/\0<=q/\q<=4294967297/\0<=r/\r<4294967296/\r=h5-q*v1/\af w/af v<=q)/\s'.2.1.toNat<q.toNat
  |.inr r=>∃q,r=((A.length,A.length+w.length),q,A++(w++C),())/\0<=q/\q<4294967296/\af w/af v<=q/\q*af v<af w+af v):=by
  intro M8;rw[aA,bS,bq,dr (x:=v1) (by omega) (by omega),dr (x:=r+v1) (by omega) (by omega),dr (x:=q-1) (by omega) (by omega),cC];refine U.ite (fun g=>?_) fun g=>?_
  ·refine U.ar.2 ⟨q-1,rfl,by omega,?_,by omega,?_⟩
   ·rcases iO (q-1) 4294967296 with k|k
    ·exact k
    ·exfalso;have:=oK k (show 0<=v1 by omega);rw[ak] at this;omega
   ·have aa:q-1<4294967296:=by
     rcases iO (q-1) 4294967296 with k|k
     ·exact k
     ·exfalso;have:=oK k (show 0<=v1 by omega);rw[ak] at this;omega
    refine gm (q-1) (by omega) aa ?_;rw[ak];have bk:(q-1)*gz<=4294967295*gz:=oK (by omega) pe.1;omega
  ·refine U.ar.2 ⟨⟨q-1,r+v1,rfl,by omega,by omega,by omega,by omega,?_,by omega⟩,?_⟩
   ·rw[ak];omega
   ·show(q-1).toNat<q.toNat;omega
 by_cases MT:q>4294967295
 ·simp only[a8 MT,show(true==false)=false from rfl,cond_false,bq];refine(dec (by omega)).mono ?_;rintro(y|y) aB
  ·exact aB
  ·exact aB
 ·simp only[a1 MT,beq_self_eq_true,cond_true,aX,bt,bq];obtain⟨t1,t2⟩:=O7 (x:=r) (y:=eS) ⟨ju,lB⟩ qJ;have mQ:=Iw (x:=q) (y:=gz) ⟨da,by omega⟩ pe;rw[t1,bq];simp only[sn,hb (show n<w.length by omega),bq,cY,t2];rw[dr (x:=gz) (by omega) (by omega),dr (x:=q*gz) (by omega) (by omega)];by_cases hc:q*gz>4294967296*r+eS
  ·simp only[a8 hc,cond_true,bq];refine(dec (aky q da (by rw[<-sw];omega))).mono ?_;rintro(y|y) aB
   ·exact aB
   ·exact aB
  ·simp only[a1 hc,cond_false,bq];exact U.ar.2 ⟨q,rfl,da,by omega,akW,gm q da (by omega) (by rw[<-sw];omega)⟩
theorem ayZ {A w C v:List Int} {q:Int} (hv:bi v) (hw:bi w) (ag:v.length<w.length) (rB:w.length<=100000000) (aj:0<=q/\q<4294967296) {cd:(aCv×Int×Int×bx×Unit)->Prop} (aq:∀c b w',w'.length=w.length->bi w'->(∀(h:v.length<w'.length) (R:v.length<w.length),w'[v.length]=w[v.length])->0<=c->c<4294967296->0<=b->b<=1->af w'-a9 v.length*(c+b)=af w-q*af v->cd ((A.length,A.length+w.length),c,b,A++(w'++C),())):U (loop (σ:=(aCv×Int×Int×Int×bx×Unit)) (ρ:=(aCv×Int×Int×bx×Unit)) (fun(mr,vH,Ak,qZ,xn,_)=>
 bif decide (qZ<aS v) then
 (bf v qZ).bind fun mv=>
 (d6 IntKind.u64 (bc (bc (q*bc mv)+vH)) 32).bind fun Cx=>
 (cH (mr.2-mr.1) qZ).bind fun Tb=>
 (cb xn (mr.1+Tb) fun GR=>some GR).bind fun sg=>
 (cH (mr.2-mr.1) qZ).bind fun HW=>
 (cb xn (mr.1+HW) fun _=>some (xn.set (mr.1+HW) (dt (ed IntKind.u64 (bc (bc (bc sg-ed IntKind.u64 (bc (bc (q*bc mv)+vH)) 4294967295)-Ak)) 4294967295)))).bind fun V5=>
 (d6 IntKind.u64 (bc (bc (bc sg-ed IntKind.u64 (bc (bc (q*bc mv)+vH)) 4294967295)-Ak)) 32).bind fun VY=>
 some (.inl (mr,Cx,ed IntKind.u64 VY 1,bN qZ,V5,())) else
 some (.inr (mr,vH,Ak,xn,()))) ((A.length,A.length+w.length),0,0,0,A++(w++C),())) cd:=by
 refine U.steps v.length (fun i s=>∃c b w',s=((A.length,A.length+w.length),c,b,(i:Int),A++(w'++C),())/\w'.length=w.length/\bi w'/\(∀k,i<=k->(h:k<w'.length)->(R:k<w.length)->w'[k]=w[k])/\0<=c/\c<4294967296/\0<=b/\b<=1/\af w'-a9 i*(c+b)=af w-q*af (v.take i)) ⟨0,0,w,rfl,rfl,hw,fun _ _ _ _=>rfl,by omega,by omega,by omega,by omega,by simp[af]⟩ ?_ ?_
 ·rintro i _ hi ⟨c,b,w',rfl,J,R,ac,aL,aY,bG,eF,pS⟩;have ab:=hv.get hi;have aB:=R.get (n:=i) (by omega);have ak:=Iw aj ab;obtain⟨p,aw,p7,fy⟩:∃p,p=q*v[i]+c/\0<=p/\p<18446744073709551616:=⟨_,rfl,by omega,by omega⟩;simp only[a8 (show(i:Int)<aS v by simp only[bL];omega),cond_true,dC hi,bq];have aA:bc (bc (q*bc v[i])+c)=p:=by
   rw[dr (x:=v[i]) (by omega) (by omega),dr (x:=q*v[i]) (by omega) (by omega),<-aw,dr p7 fy]
  rw[aA];obtain⟨d,aP,cK,cG⟩:∃d,d=w'[i]-p %4294967296-b/\-4294967296<=d/\d<4294967296:=⟨_,rfl,by omega,by omega⟩;have aX:bc (bc (bc w'[i]-ed IntKind.u64 p 4294967295)-b)=d %18446744073709551616:=(by rw[and_low32 p7 fy,n2,n2,n2,aP];omega);have aN:d %18446744073709551616/4294967296 %2^1=-(d/4294967296):=(by rw[show(2:Int)^1=2 from rfl];omega);have aM:d %18446744073709551616 %4294967296=d %4294967296:=(by omega);simp only[qe,sn,hb (show i<w.length by omega),bq,vC (show i<w'.length by omega),aX,wH (show 0<=d %18446744073709551616 by omega) (by omega),Jp (show i<w'.length by omega)];rw[xT 1 (by omega) (by omega) 1 (by decide) (by decide),aN,aM];refine U.ar.2 ⟨p/4294967296,-(d/4294967296),w'.set i (d %4294967296),by rw[cO (by omega)],by simp[J],R.set (by omega) (by omega),?_,by omega,by omega,by omega,by omega,?_⟩
  ·intro k bk bD cm;rw[zV (by omega)];exact ac k (by omega) (by omega) cm
  ·rw[pC (by omega),ia,h6 hi];have f1:=jM d 4294967296;have cE:=jM p 4294967296;generalize d/4294967296=k4 at*;generalize d %4294967296=vW at*;generalize p/4294967296=UC at*;generalize p %4294967296=pr at*;generalize w'[i]=y at*;have g6:pr=q*v[i]+c-4294967296*UC:=(by omega);generalize v[i]=x at*;have ny:vW=y-pr-b-4294967296*k4:=(by omega);rw[ny,g6];grind
 ·rintro _ ⟨c,b,w',rfl,J,R,ac,aL,aY,bG,eF,pS⟩;simp only[a1 (show¬((v.length:Int)<aS v) by simp only[bL];omega),cond_false];rw[dW (bU _)] at pS;exact U.ar.2 (aq c b w' J R (fun bk bD=>ac _ (bU _) bk bD) aL aY bG eF pS)
theorem aj3 {A w C v:List Int} (hv:bi v) (hw:bi w) (ag:v.length<w.length) (rB:w.length<=100000000) {cd:(aCv×Int×bx×Unit)->Prop} (aq:∀c w',w'.length=w.length->bi w'->(∀(h:v.length<w'.length) (R:v.length<w.length),w'[v.length]=w[v.length])->0<=c->c<=1->af w'+a9 v.length*c=af w+af v->cd ((A.length,A.length+w.length),c,A++(w'++C),())):U (loop (σ:=(aCv×Int×Int×bx×Unit)) (ρ:=(aCv×Int×bx×Unit)) (fun(ms,Ao,ts,xo,_)=>
 bif decide (ts<aS v) then
 (bf v ts).bind fun JN=>
 (cH (ms.2-ms.1) ts).bind fun Td=>
 (cb xo (ms.1+Td) fun QV=>some QV).bind fun JO=>
 (cH (ms.2-ms.1) ts).bind fun HX=>
 (cb xo (ms.1+HX) fun _=>some (xo.set (ms.1+HX) (dt (ed IntKind.u64 (bc (bc (bc JO+bc JN)+Ao)) 4294967295)))).bind fun V6=>
 (d6 IntKind.u64 (bc (bc (bc JO+bc JN)+Ao)) 32).bind fun VZ=>
 some (.inl (ms,VZ,bN ts,V6,())) else
 some (.inr (ms,Ao,xo,()))) ((A.length,A.length+w.length),0,0,A++(w++C),())) cd:=by
 refine U.steps v.length (fun i s=>∃c w',s=((A.length,A.length+w.length),c,(i:Int),A++(w'++C),())/\w'.length=w.length/\bi w'/\(∀k,i<=k->(h:k<w'.length)->(R:k<w.length)->w'[k]=w[k])/\0<=c/\c<=1/\af w'+a9 i*c=af w+af (v.take i)) ⟨0,w,rfl,rfl,hw,fun _ _ _ _=>rfl,by omega,by omega,by simp[af]⟩ ?_ ?_
 ·rintro i _ hi ⟨c,w',rfl,J,R,ac,aL,aY,bG⟩;have ab:=hv.get hi;have aB:=R.get (n:=i) (by omega);obtain⟨t,ah,t0,t1⟩:∃t,t=w'[i]+v[i]+c/\0<=t/\t<8589934592:=⟨_,rfl,by omega,by omega⟩;simp only[a8 (show(i:Int)<aS v by simp only[bL];omega),cond_true,dC hi,bq];have aX:bc (bc (bc w'[i]+bc v[i])+c)=t:=by
   rw[dr (x:=v[i]) (by omega) (by omega),dr (x:=w'[i]) (by omega) (by omega),dr (x:=w'[i]+v[i]) (by omega) (by omega),<-ah,dr t0 (by omega)]
  simp only[qe,sn,hb (show i<w.length by omega),bq,vC (show i<w'.length by omega),aX,wH t0 (show t<18446744073709551616 by omega),Jp (show i<w'.length by omega)];refine U.ar.2 ⟨t/4294967296,w'.set i (t %4294967296),by rw[cO (by omega)],by simp[J],R.set (by omega) (by omega),?_,by omega,by omega,?_⟩
  ·intro k bk bD cm;rw[zV (by omega)];exact ac k (by omega) (by omega) cm
  ·rw[pC (by omega),ia,h6 hi];have f1:=jM t 4294967296;generalize t/4294967296=k4 at*;generalize t %4294967296=vW at*;generalize w'[i]=y at*;generalize v[i]=x at*;have ny:vW=y+x+c-4294967296*k4:=(by omega);rw[ny];grind
 ·rintro _ ⟨c,w',rfl,J,R,ac,aL,aY,bG⟩;simp only[a1 (show¬((v.length:Int)<aS v) by simp only[bL];omega),cond_false];rw[dW (bU _)] at bG;exact U.ar.2 (aq c w' J R (fun bk bD=>ac _ (bU _) bk bD) aL aY bG)
theorem alU {T S W c q V kr y k4:Int} (bG:T+W*c=S+V) (R:S=kr-q*V-W*(4294967296*-1)):T+W*(y+c-4294967296*k4-y)=kr-(q-1)*V+W*(4294967296*(1-k4)):=by have aA:W*(y+c-4294967296*k4-y)=W*c-W*(4294967296*k4):=(by grind);have aX:(q-1)*V=q*V-V:=(by grind);have bY:W*(4294967296*(1-k4))=W*4294967296-W*(4294967296*k4):=(by grind);have e7:W*(4294967296*-1)=-(W*4294967296):=(by grind);omega
theorem alV {T W c b q V kr y k4:Int} (h:T-W*(c+b)=kr-q*V):T+W*(y-c-b-4294967296*k4-y)=kr-q*V-W*(4294967296*k4):=by have aA:W*(y-c-b-4294967296*k4-y)=-(W*(c+b))-W*(4294967296*k4):=(by grind);omega
theorem U.bs {α aT:Type} {x:Option α} {k:α->Option aT} {Q:aT->Prop} {y:α} (h:x=some y) (R:U (k y) Q):U (x.bind k) Q:=by rw[h];exact R
theorem alW {A w C v:List Int} {n:Nat} (h:Fq v w n):U (Ga ((A++(w++C),A.length,A.length+w.length),v,())) (fun r=>∃w',r=(A++(w'++C),af w/af v,())/\w'.length=w.length/\bi w'/\af w'=af w %af v):=by
 have mU:=h.zB;have yH:=h.wn;have wo:=h.N9;have om:=h.afx;have aoB:=ej h.hw;have Nm:=h.top;have Bs:=h.hv.get (n:=n+1) (by omega);have uC:=h.hw.get (n:=n+2) (by omega);have s1:=h.hw.get (n:=n+1) (by omega);have ek:aS v=((n+2:Nat):Int):=(by simp only[bL];omega);have aA:aQ (((n+2:Nat):Int)-1)=((n+1:Nat):Int):=(by rw[b4 (by omega) (by omega)];omega);have bS:bf v ((n+1:Nat):Int)=some v[n+1]:=dC (by omega);obtain⟨t1,t2⟩:=O7 (x:=w[n+2]) (y:=w[n+1]) uC s1;obtain⟨t3,t4⟩:=OB (x:=4294967296*w[n+2]+w[n+1]) (y:=v[n+1]) ⟨by omega,by omega⟩ (by omega);unfold Ga;have i2:cH (A.length+w.length-A.length) (aS v)=some (n+2):=(by rw[sn,ek];exact hb (by omega));have i1:cH (A.length+w.length-A.length) (aQ (aS v-1))=some (n+1):=(by rw[sn,ek,aA];exact hb (by omega));have i3:bf v (aQ (aS v-1))=some v[n+1]:=(by rw[ek,aA];exact bS);refine U.bs i2 (U.bs (vC (by omega) _) (U.bs (by rw[dr uC.1 (by omega)];exact t1) (U.bs i1 (U.bs (vC (by omega) _) (U.bs i3 (U.bs (by rw[t2,dr Bs.1 (by omega)];exact t3) (U.bs i3 (U.bs (by rw[t2,dr Bs.1 (by omega)];exact t4) ?_))))))));refine U.bJ (amU h rfl rfl) ?_;rintro _ ⟨q,rfl,mm,aN,aM,bb⟩;refine U.bJ (P:=fun r=>∃c b w',r=((A.length,A.length+w.length),c,b,A++(w'++C),())/\w'.length=w.length/\bi w'/\0<=c/\c<4294967296/\0<=b/\b<=1/\(∀(h:v.length<w'.length) (R:v.length<w.length),w'[v.length]=w[v.length])/\af w'-a9 v.length*(c+b)=af w-q*af v) (ayZ h.hv h.hw (by omega) (by omega) ⟨mm,aN⟩ fun c b w' bk bD cm fx mi rR Eg wC=>⟨c,b,w',rfl,bk,bD,fx,mi,rR,Eg,cm,wC⟩) ?_;rintro _ ⟨c,b,w',rfl,bk,bD,fx,mi,rR,Eg,cm,wC⟩;have aB:=bD.get (n:=n+2) (by omega);obtain⟨d,aP,cK,cG⟩:∃d,d=w'[n+2]-c-b/\-4294967296<=d/\d<4294967296:=⟨_,rfl,by omega,by omega⟩;have aX:bc (bc (bc w'[n+2]-c)-b)=d %18446744073709551616:=(by rw[n2,n2,n2,aP];omega);have Cz:d %18446744073709551616/4294967296 %2^1=-(d/4294967296):=(by rw[show(2:Int)^1=2 from rfl];omega);have zH:d %18446744073709551616 %4294967296=d %4294967296:=(by omega);refine U.bs i2 (U.bs (vC (by omega) _) (U.bs i2 (U.bs (y:=A++(w'.set (n+2) (d %4294967296)++C)) ?_ (U.bs (y:=d %18446744073709551616/4294967296) ?_ ?_))))
 ·rw[vC (by omega),aX,wH (by omega) (by omega),Jp (by omega),zH]
 ·rw[aX,qe]
 rw[xT 1 (by omega) (by omega) 1 (by decide) (by decide),Cz];have k5:=eU (n+2);have qI:af (w'.set (n+2) (d %4294967296))=af w'+a9 (n+2)*(d %4294967296-w'[n+2]):=pC (by omega) _;have qC:bi (w'.set (n+2) (d %4294967296)):=bD.set (by omega) (by omega);rw[mU] at wC;have f1:=jM d 4294967296;have h2:af (w'.set (n+2) (d %4294967296))=af w-q*af v-a9 (n+2)*(4294967296*(d/4294967296)):=(by rw[qI];generalize d/4294967296=k4 at*;generalize d %4294967296=vW at*;have:vW=w'[n+2]-c-b-4294967296*k4:=(by omega);rw[this];exact alV wC);have M8:=gU qC;have aBk:=ej qC;rw[Fz,bk,yH,show n+3=(n+2)+1 by omega,ia] at M8;have DR:=jM (af w) (af v);have jz:=q9 (af w) (show af v≠0 by omega);have sW:=tL (af w) om;rw[eY,cC];refine U.ite (fun g=>?_) fun g=>?_
 ·have R6:d/4294967296=0:=(by omega);rw[R6] at h2;have aj:af w/af v=q:=by
   have J:q*af v<=af w:=(by omega);have R:q<=af w/af v:=(Int.le_ediv_iff_mul_le om).2 J;omega
  rw[cT (by simp;omega),m7 mm aN];refine U.ar.2 ⟨_,by rw[aj],by simp[bk],qC,?_⟩;rw[h2];rw[aj] at DR;rw[jl q];omega
 ·have R6:d/4294967296=-1:=(by omega);rw[R6] at h2;have aj:af w/af v=q-1:=by
   have J:af w<q*af v:=(by omega);have R:af w/af v<q:=vj om J;have ac:(q-1)*af v<af w+1:=(by have:(q-1)*af v=q*af v-af v:=(by grind);omega);have aL:q-1<=af w/af v:=(Int.le_ediv_iff_mul_le om).2 (by omega);omega
  have fY:=oJ aoB (eM om);have d2:(w'.set (n+2) (d %4294967296)).length=w.length:=(by simp[bk]);rw[<-d2];refine U.bJ (P:=fun r=>∃c fe,r=((A.length,A.length+(w'.set (n+2) (d %4294967296)).length),c,A++(fe++C),())/\fe.length=w.length/\bi fe/\0<=c/\c<=1/\af fe+a9 v.length*c=af (w'.set (n+2) (d %4294967296))+af v) (aj3 h.hv qC (by omega) (by omega) fun c fe HN pY aBE S1 aa0 ND=>⟨c,fe,rfl,by rw[HN,d2],pY,S1,aa0,ND⟩) ?_;rintro _ ⟨cw,fe,rfl,HN,pY,S1,aa0,ND⟩;rw[d2];have a2:=pY.get (n:=n+2) (by omega);refine U.bs i2 (U.bs (vC (by omega) _) (U.bs i2 (U.bs (y:=A++(fe.set (n+2) ((fe[n+2]+cw) %4294967296)++C)) ?_ ?_)))
  ·rw[vC (by omega),Jp (by omega),m7 S1 (by omega),tE]
  rw[cT (by simp;omega),dr (by omega) (by omega),m7 (by omega) (by omega)];refine U.ar.2 ⟨fe.set (n+2) ((fe[n+2]+cw) %4294967296),by rw[aj],by simp[HN],pY.set (by omega) (by omega),?_⟩;have aqh:af (fe.set (n+2) ((fe[n+2]+cw) %4294967296))=af fe+a9 (n+2)*((fe[n+2]+cw) %4294967296-fe[n+2]):=pC (by omega) _;have Z8:bi (fe.set (n+2) ((fe[n+2]+cw) %4294967296)):=pY.set (by omega) (by omega);have apI:=gU Z8;have aBl:=ej Z8;have apC:(fe.set (n+2) ((fe[n+2]+cw) %4294967296)).length=(n+2)+1:=(by rw[Fz];omega);rw[apC,ia] at apI;have cE:=jM (fe[n+2]+cw) 4294967296;rw[mU] at ND;have Nj:af (fe.set (n+2) ((fe[n+2]+cw) %4294967296))=af w-(q-1)*af v+a9 (n+2)*(4294967296*(1-(fe[n+2]+cw)/4294967296)):=(by rw[aqh];generalize(fe[n+2]+cw)/4294967296=k4 at*;generalize(fe[n+2]+cw) %4294967296=vW at*;have:vW=fe[n+2]+cw-4294967296*k4:=(by omega);rw[this];exact alU ND h2);rw[aj] at DR;have nF:af w-(q-1)*af v=af w %af v:=(by rw[jl (q-1)];omega);rw[nF] at Nj;have aqx:=gU h.hv;rw[mU] at aqx;have apX:(fe[n+2]+cw)/4294967296=1:=by
   rcases iO 0 ((fe[n+2]+cw)/4294967296) with cY|cY
   ·omega
   ·exfalso;have:(fe[n+2]+cw)/4294967296=0:=(by omega);rw[this] at Nj;omega
  rw[apX] at Nj;rw[Nj];simp
theorem AW {x:Int} (h:0<=x):af (c6 x.toNat)=x:=by rw[nx];omega
theorem atw {b:List Int} {n:Nat} (aa:bi b) (tb:ec b) (ag:b.length=n+2):∃s:Nat,s<=31/\AC (b[n+1],())=some ((s:Int),())/\af b*2^s<a9 (n+2)/\2147483648*a9 (n+1)<=af b*2^s:=by
 have ab:=aa.get (n:=n+1) (by omega);have aV:b[n+1]≠0:=tb _ (by rw[List.getLast?_eq_getElem?,cr (by omega)];congr 2;omega);have ac:af b=af (b.take (n+1))+a9 (n+1)*b[n+1]:=(by rw[<-h6 (by omega),dW (by omega)]);have aL:=ej (aa.take (n+1));have aY:=gU (aa.take (n+1));rw[eW,hU (by omega)] at aY;generalize b[n+1]=t at*;obtain⟨k,rfl⟩:=fL ab.1;have ae:0<k:=(by omega);have aoO:aU k<=32:=es.2 (by omega);have DP:=ub ae;obtain⟨da,cw⟩:=C9 ae;obtain⟨j,ao⟩:∃j,aU k=j+1:=⟨aU k-1,by omega⟩;refine⟨32-aU k,by omega,?_,?_,?_⟩
 ·unfold AC;refine aI (Tr (n:=k) (by omega)) ?_;show some (aQ (32-(aU k:Int)),())=_;rw[b4 (by omega) (by omega)];congr 2;omega
 ·have aA:af b<a9 (n+1)*2^aU k:=by
   have:a9 (n+1)*((k:Int)+1)<=a9 (n+1)*2^aU k:=kI (by rw[<-lR];omega) (eM (eU _));have aX:a9 (n+1)*((k:Int)+1)=a9 (n+1)*(k:Int)+a9 (n+1):=(by rw[Int.mul_add,Int.mul_one]);show af b<_;rw[ac];show af (b.take (n+1))+a9 (n+1)*(k:Int)<_;omega
  have bY:af b*2^(32-aU k)<a9 (n+1)*2^aU k*2^(32-aU k):=zP aA (lj _);rw[ra,<-pG,show aU k+(32-aU k)=32 by omega] at bY;rw[ia,jl];rw[jl];have:a9 (n+1)*2^32=4294967296*a9 (n+1):=(by rw[jl];rfl);omega
 ·have aA:a9 (n+1)*2^j<=af b:=by
   have:a9 (n+1)*2^j<=a9 (n+1)*(k:Int):=kI (by rw[<-lR];rw[ao] at da;simp only[CV] at da;omega) (eM (eU _));rw[ac];show _<=af (b.take (n+1))+a9 (n+1)*(k:Int);omega
  have bY:a9 (n+1)*2^j*2^(32-aU k)<=af b*2^(32-aU k):=oK aA (eM (lj _));rw[ra,<-pG,show j+(32-aU k)=31 by omega] at bY;have:a9 (n+1)*2^31=2147483648*a9 (n+1):=(by rw[jl];rfl);omega
theorem alY {v:List Int} {V:Int} {n:Nat} (c4:af v=V) (hv:bi v) (VB:ec v) (J:V<a9 (n+2)) (R:2147483648*a9 (n+1)<=V):∃h:v.length=n+2,2147483648<=v[n+1]:=by
 have aw:=eU (n+1);have d2:v.length=n+2:=by
  have ch:=gU hv;have c8:v≠[]:=fun e=>(by rw[e] at c4;simp only[af] at c4;omega);have a3:=ec.low hv VB c8;rcases rf v.length (n+2) with h|h|h
  ·have:=tp (m:=v.length) (n:=n+1) (by omega);omega
  ·exact h
  ·have:=tp (m:=n+2) (n:=v.length-1) (by omega);omega
 refine⟨d2,?_⟩;have ac:af v=af (v.take (n+1))+a9 (n+1)*v[n+1]:=(by rw[<-h6 (by omega),dW (by omega)]);have aY:=gU (hv.take (n+1));rw[eW,hU (by omega)] at aY;rcases iO v[n+1] 2147483648 with g|g
 ·exfalso;have:a9 (n+1)*(v[n+1]+1)<=a9 (n+1)*2147483648:=kI (by omega) (by omega);rw[Int.mul_add,Int.mul_one] at this;omega
 ·exact g
theorem Yg {kr Q V w q P A x C:Int} (h:(A+P*(w+C))+V*Q=kr) (hw:w=V*q+x):(A+P*(x+C))+V*(Q+P*(q-0))=kr:=by subst hw;have aA:P*(V*q+x+C)=P*(x+C)+P*(V*q):=(by grind);have aX:V*(Q+P*(q-0))=V*Q+P*(V*q):=(by grind);omega
theorem alX {v fB:List Int} {V kr:Int} {n m N:Nat} (hv:bi v) (c4:af v=V) (aoD:V<a9 (n+2)) (mU:v.length=n+2) (Br:2147483648<=v[n+1]) (N9:n<=10000000) (aR:bi fB) (us:af fB=kr) (rB:fB.length=N) (ak:N=m+(n+2)) (aoz:N<=10000000) (ca:af (fB.drop m)<V) {cd:k3->Prop} (aq:∀q u,q.length=m->bi q->u.length=N->bi u->af u+V*af q=kr->af u<V->cd (q,u,())):U (loop (σ:=(Int×bx×bx×Unit)) (ρ:=k3) (fun(s8,IZ,xp,_)=>
 bif decide (s8>=0) then
 (
  (jh s8).bind fun H7=>(jh (bN (aQ (s8+aS v)))).bind fun H8=>(jG H7 H8 xp.length).bind fun _=>(IV xp.length).map fun _=>(H7,H8)).bind fun w5=>
  bif Nat.blt w5.1 w5.2 then
 (Ga ((xp,w5.1,w5.2),v,())).bind fun(TC,UR,_)=>
 wr IZ s8 UR fun V8=>
 some (.inl (aQ (s8-1),V8,TC,())) else none else
 some (.inr (IZ,xp,()))) (aQ (aS (List.replicate m (0:Int))-1),List.replicate m (0:Int),fB,())) cd:=by
 have om:0<V:=(by have J:=Pj mU;have R:=ej (hv.take n);have ac:=hv.get (n:=n) (by omega);have aY:0<(v[n+1]*4294967296+v[n])*a9 n:=vk (by omega) (eU n);omega);refine U.steps m (fun i s=>∃q u,s=(((m:Nat):Int)-1-i,q,u,())/\q.length=m/\bi q/\(∀k,k<m-i->(ae:k<q.length)->q[k]=0)/\u.length=N/\bi u/\af u+V*af q=kr/\af (u.drop (m-i))<V) ⟨List.replicate m 0,fB,?_,by simp,bi.n3 _,by simp,rB,aR,by rw[tC,us];omega,ca⟩ ?_ ?_
 ·rw[show aQ (aS (List.replicate m (0:Int))-1)=(m:Int)-1-((0:Nat):Int) from ?_];simp only[bL,vv];rw[b4 (by omega) (by omega)];omega
 ·rintro i _ hi ⟨q,u,rfl,aN,aM,bb,m5,eS,J,R⟩;obtain⟨k,ae⟩:∃k,m=k+1+i:=⟨m-1-i,by omega⟩;have aA:((m:Nat):Int)-1-(i:Int)=(k:Int):=(by omega);rw[show m-i=k+1 by omega] at R;have aX:bN (aQ ((k:Int)+aS v))=((k+(n+3):Nat):Int):=by
   simp only[bL];rw[b4 (by omega) (by omega),show(k:Int)+(v.length:Int)=((k+(n+2):Nat):Int) by omega,cO (by omega)];rfl
  simp only[aA,a8 (show(k:Int)>=0 by omega),cond_true,aX,EB,bq,Ie (show k<=k+(n+3)/\k+(n+3)<=u.length by omega),adt (show 0<u.length by omega),hC,show Nat.blt k (k+(n+3))=true from by simp];obtain⟨A,dY⟩:∃A,A=u.take k:=⟨_,rfl⟩;obtain⟨w,hw⟩:∃w,w=(u.drop k).take (n+3):=⟨_,rfl⟩;obtain⟨C,sQ⟩:∃C,C=u.drop (k+(n+3)):=⟨_,rfl⟩;have sO:A.length=k:=(by rw[dY,eW];omega);have pd:w.length=n+3:=(by rw[hw,eW,oO];omega);have mT:u=A++(w++C):=(by rw[dY,hw,sQ,<-tP,oQ,oQ]);have aom:C.length=N-(k+(n+3)):=(by rw[sQ,oO,m5]);have Tm:bi A:=(by rw[dY];exact eS.take k);have wJ:bi w:=(by rw[hw];exact(eS.drop k).take _);have H9:bi C:=(by rw[sQ];exact eS.drop _);have ao0:af (u.drop k)=af w+a9 (n+3)*af C:=(by rw[mT,vo (by omega),vp (by omega),hk,n0,pd]);have ao1:af (u.drop k)=u[k]+4294967296*af (u.drop (k+1)):=n1 (by omega);have ab:=eS.get (n:=k) (by omega);have RC:=ej H9;have aon:0<=a9 (n+3)*af C:=qg (eM (eU _)) RC;have M8:af (u.drop k)<4294967296*V:=(by omega);have RD:af C=0:=by
   rcases iO 0 (af C) with g|g
   ·exfalso;have:=kI (show 1<=af C by omega) (eM (eU (n+3)));have e:a9 (n+3)=4294967296*a9 (n+2):=ia (n+2);have:=ej wJ;omega
   ·omega
  have D:Fq v w n:=⟨hv,wJ,mU,pd,N9,Br,by rw[c4];omega⟩;have fY:0<=af w/V:=Int.ediv_nonneg (ej wJ) (by omega);have kU:af w/V<4294967296:=Int.ediv_lt_of_lt_mul om (by omega);have DR:=Int.emod_add_mul_ediv (af w) V;have sW:=Int.emod_lt_of_pos (af w) om;have Ye:=alW (A:=A) (C:=C) D;rw[<-mT,sO,pd,c4] at Ye;refine U.bJ Ye ?_;rintro _ ⟨w',rfl,ve,fe,dt⟩;dsimp only;rw[m8 (by omega)];refine U.ar.2 ⟨q.set k (af w/V),A++(w'++C),?_,by simp[aN],aM.set fY kU,?_,by simp;omega,bi.append.2 ⟨Tm,bi.append.2 ⟨fe,H9⟩⟩,?_,?_⟩
  ·rw[b4 (by omega) (by omega)];congr 1;omega
  ·intro bD cm fx;rw[zV (by omega)];exact bb bD (by omega) (by simpa using fx)
  ·rw[pC (by omega),bb k (by omega) (by omega),n0,n0,sO,dt];rw[mT,n0,n0,sO] at J;rw[ve];rw[pd] at J;have No:af w=V*(af w/V)+af w %V:=(by omega);exact Yg J No
  ·rw[show m-(i+1)=k by omega,vo (by omega),vp (by omega),hk,n0,RD,dt];omega
 ·rintro _ ⟨q,u,rfl,aN,aM,bb,m5,eS,J,R⟩;have aA:¬(((m:Nat):Int)-1-(m:Int)>=0):=(by omega);simp only[a1 aA,cond_false];rw[Nat.sub_self,qh] at R;exact U.ar.2 (aq q u aN aM m5 eS J R)
theorem OC {A B q r:Int} (dZ:0<B) (h:A=B*q+r) (aV:0<=r) (J:r<B):A/B=q/\A %B=r:=by have R:=jM A B;have ac:A/B=q:=(by rw[h,Int.mul_add_ediv_left _ _ (by omega),tK aV J];omega);refine⟨ac,?_⟩;rw[ac] at R;omega
theorem Yi {a b:List Int} (aC:bi a) (aa:bi b) (ta:ec a) (tb:ec b) (kY:a.length<=1000000) (f5:b.length<=1000000) (k6:b≠[]):Gb (a,b,())=some (c6 (af a/af b).toNat,c6 (af a %af b).toNat,()):=by
 unfold Gb;refine U.eq_iff.1 ?_;have Bb:=ej aC;have kR:0<af b:=(by have:=ej aa;have:af b≠0:=fun e=>k6 (ec.zero aa tb e);omega);refine U.bs (KJ aC aa ta tb (by omega) (by omega)) ?_;dsimp only;rw[cC];refine U.ite (fun h=>?_) fun h=>?_
 ·have ca:af a<af b:=by
   unfold e2 at h;split at h
   ·assumption
   ·split at h<;>omega
  refine U.bs (FP (by omega)) (U.ar.2 ?_);rw[tK Bb ca,xE Bb ca];show(([]:List Int),a,())=(c6 0,c6 (af a).toNat,());rw[Q2,<-ec.eq aC ta]
 have kS:af b<=af a:=by
  unfold e2 at h;split at h
  ·omega
  ·omega
 rw[eY,cC];refine U.ite (fun J=>?_) fun J=>?_
 ·have J:b.length=1:=(by simp only[bL] at J;omega);obtain⟨d,rfl⟩:=List.length_eq_one_iff.1 J;have aP:=(bi.cons.1 aa).1;have hv:af [d]=d:=(by simp[af]);rw[hv] at kR|-;have wK:0<=af a %d:=Int.emod_nonneg _ (by omega);have iH:af a %d<d:=Int.emod_lt_of_pos _ kR;refine U.bs (y:=d) rfl (U.bs (ayz aC (by omega) (by omega) aP.2) ?_);dsimp only;refine U.bs (r9 (bi.cons.2 ⟨⟨wK,by omega⟩,bi.nil⟩) (by simp)) (U.ar.2 ?_);show(_,hz [af a %d],())=_;rw[hz];simp[af]
 obtain⟨n,ag⟩:∃n,b.length=n+2:=(by have:=J8.2 k6;simp only[bL] at J;exact⟨b.length-2,by omega⟩);have aA:aQ (aS b-1)=((n+1:Nat):Int):=(by simp only[bL];rw[b4 (by omega) (by omega)];omega);obtain⟨s,fA,hx,lm,r1⟩:=atw aa tb ag;have apA:n+2<=a.length:=by
  rcases ct a.length (n+2) with g|g
  ·have:=vc aC aa tb (by omega);omega
  ·exact g
 have aw:=lj s;refine U.bs (y:=b[n+1]) (by rw[aA];exact dC (by omega)) (U.bs hx ?_);refine U.bs (Pc aa (by omega) (by omega)) ?_;obtain⟨v,hv⟩:∃v,v=c6 (af b*2^s).toNat:=⟨_,rfl⟩;have sP:0<=af b*2^s:=Int.mul_nonneg (by omega) (by omega);have c4:af v=af b*2^s:=(by rw[hv,AW sP]);have cB:bi v:=(by rw[hv];exact lE _);have VB:ec v:=(by rw[hv];exact ry _);obtain⟨mU,Br⟩:=alY c4 cB VB lm r1;rw[<-hv];have aX:bN (aS a)=((a.length+1:Nat):Int):=cO (by omega);refine U.bs (y:=a.length+1) (by rw[aX];exact jZ (by omega)) ?_;refine U.bs (Pc aC (by omega) (by omega)) ?_;have aok:0<=af a*2^s:=Int.mul_nonneg (by omega) (by omega);have aA8:af a*2^s<a9 (a.length+1):=(by have R:af a*2^s<a9 a.length*2^s:=Int.mul_lt_mul_of_pos_right (gU aC) aw;have ac:a9 a.length*2^s<=a9 a.length*4294967296:=Int.mul_le_mul_of_nonneg_left (by have:=B2 fA;omega) (Int.le_of_lt (eU _));rw[ia,Int.mul_comm 4294967296];omega);obtain⟨x,ab⟩:∃x,x=c6 (af a*2^s).toNat:=⟨_,rfl⟩;have Bu:x.length<=a.length+1:=(by rw[ab];exact vZ (by omega));have ar4:bi x:=(by rw[ab];exact lE _);have iV:af x=af a*2^s:=(by rw[ab,AW aok]);rw[<-ab];obtain⟨fB,uC⟩:∃fB,fB=nu (List.replicate (a.length+1) (0:Int)) x 0 (List.replicate (a.length+1) (0:Int)).length:=⟨_,rfl⟩;have s1:fB=x++List.replicate (a.length+1-x.length) 0:=(by rw[uC];unfold nu;rw[List.take_zero,List.nil_append,List.length_replicate,Nat.sub_zero,List.take_of_length_le Bu,Nat.zero_add,Nat.min_eq_left Bu,List.drop_replicate]);have qJ:fB.length=a.length+1:=(by rw[s1];simp;omega);have Ij:bi fB:=(by rw[s1];exact bi.append.2 ⟨ar4,bi.n3 _⟩);have mT:af fB=af a*2^s:=(by rw[s1,n0,tC,iV];omega);dsimp only;rw[<-uC];obtain⟨m,ak⟩:∃m,a.length+1=m+(n+2):=⟨a.length+1-(n+2),by omega⟩;have bY:aQ (aS fB-aS v)=((m:Nat):Int):=(by simp only[bL];rw[b4 (by omega) (by omega)];omega);refine U.bs (y:=m) (by rw[bY];exact jZ (by omega)) ?_;have ca:af (fB.drop m)<af b*2^s:=(by have J:=sc fB m (by omega);have R:=ej (Ij.take m);rw[mT] at J;have ac:af a*2^s<a9 a.length*2^s:=Int.mul_lt_mul_of_pos_right (gU aC) aw;have aL:a9 a.length=a9 m*a9 (n+1):=(by rw[<-zM];congr 1;omega);have aY:a9 m*af (fB.drop m)<a9 m*(a9 (n+1)*2^s):=(by rw[<-Int.mul_assoc,<-aL];omega);have bG:=Int.lt_of_mul_lt_mul_left aY (Int.le_of_lt (eU m));have eF:a9 (n+1)*2^s<=a9 (n+1)*2147483648:=Int.mul_le_mul_of_nonneg_left (B2 fA) (Int.le_of_lt (eU _));omega);refine U.bJ (P:=fun r=>∃q u,r=(q,u,())/\q.length=m/\bi q/\u.length=a.length+1/\bi u/\af u+af b*2^s*af q=af a*2^s/\af u<af b*2^s) (alX cB c4 lm mU Br (by omega) Ij mT qJ ak (by omega) ca fun q u J R ac aL aY bG=>⟨q,u,rfl,J,R,ac,aL,aY,bG⟩) ?_;rintro _ ⟨q,u,rfl,aN,aM,m5,eS,aY,bG⟩;have e7:aS v=((n+2:Nat):Int):=(by simp only[bL];omega);dsimp only;rw[e7];refine U.bs (OW (by omega)) ?_;have aaw:=ej eS;have aqv:af (u.take (n+2))=af u:=by
  have J:=sc u (n+2) (by omega);have R:=ej (eS.drop (n+2));have ac:=ej (eS.take (n+2));rcases iO 0 (af (u.drop (n+2))) with g|g
  ·exfalso;have:=kI (show 1<=af (u.drop (n+2)) by omega) (eM (eU (n+2)));omega
  ·rw[show af (u.drop (n+2))=0 by omega] at J;omega
 have aq:af u=2^s*(af a-af b*af q):=(by have pO:af b*2^s*af q=2^s*(af b*af q):=(by grind);have uh:2^s*(af a-af b*af q)=2^s*af a-2^s*(af b*af q):=Int.mul_sub ..;rw[jl (af a)] at aY;omega);have RP:0<=af a-af b*af q:=by
  rcases iO (af a-af b*af q) 0 with g|g
  ·have:=Int.mul_neg_of_pos_of_neg aw g;omega
  ·exact g
 have DK:af a-af b*af q<af b:=(by have:2^s*(af a-af b*af q)<2^s*af b:=(by rw[<-aq,Int.mul_comm (2^s)];exact bG);exact Int.lt_of_mul_lt_mul_left this (Int.le_of_lt aw));have RQ:af u/2^s=af a-af b*af q:=(by rw[aq];exact Int.mul_ediv_cancel_left _ (by omega));obtain⟨f1,cE⟩:=OC (A:=af a) (B:=af b) (q:=af q) (r:=af a-af b*af q) kR (by omega) RP DK;refine U.bs (r9 ((eS.take _).drop _) (by simp;omega)) ?_;have Mk:hz (List.drop 0 (u.take (n+2)))=c6 (af u).toNat:=(by rw[List.drop_zero,hz,aqv]);dsimp only;rw[Mk];refine U.bs (QJ (lE _) (ry _) ?_ (by omega)) ?_
 ·have:=vZ (n:=(af u).toNat) (k:=n+2) (by omega);omega
 dsimp only;refine U.bs (r9 aM (by omega)) (U.ar.2 ?_);show(hz q,_,())=_;rw[AW aaw,RQ,f1,cE,hz]
theorem yf (n:Nat):c6 (n:Int).toNat=c6 n:=by rw[d7]
theorem amG {n:Nat} (h:0<n):c6 n≠[]:=fun e=>by have:=Q0.1 e;omega
theorem sG {n k:Nat} (h:aU n<=32*k):(c6 n).length<=k:=by refine vZ ?_;have:=es.1 h;rw[vi,<-lR];omega
theorem acg {A s x:Nat} (ab:0<x) (J:s*s<=A):s<=(x+A/x)/2:=by
 rw[Ka (by decide)];rcases ct (s*2) x with h|h
 ·exact d8 (Nat.le_of_lt h) (Nat.le_add_right _ _)
 ·have R:s*2-x<=A/x:=by
   rw[Ka ab];obtain⟨d,aP⟩:∃d,s*2=x+d:=⟨s*2-x,by omega⟩;rw[aP,sn];have ac:4*(s*s)=(x+d)*(x+d):=(by rw[<-aP];grind);have aL:(x+d)*(x+d)=x*x+2*(d*x)+d*d:=(by grind);rcases Nat.le_total x d with g|g
   ·obtain⟨e,rfl⟩:∃e,d=x+e:=⟨d-x,by omega⟩;have:(x+e)*(x+e)=x*x+2*(x*e)+e*e:=(by grind);have:(x+e)*x=x*x+x*e:=(by grind);omega
   ·obtain⟨e,rfl⟩:∃e,x=d+e:=⟨x-d,by omega⟩;have:(d+e)*(d+e)=d*d+2*(d*e)+e*e:=(by grind);have:d*(d+e)=d*d+d*e:=(by grind);omega
  omega
theorem ach {A x:Nat} (ab:0<x) (h:x<=(x+A/x)/2):x*x<=A:=by have J:x<=A/x:=(by omega);rwa[Ka ab] at J
theorem x2 {x y:Int}:e2 x y>=0↔y<=x:=by
 unfold e2;split
 ·omega
 ·split<;>omega
theorem XR {x y:Int}:e2 x y<0↔x<y:=by
 unfold e2;split
 ·omega
 ·split<;>omega
theorem axQ {A:Nat} (dY:aU A<=2000000):Li (c6 A,())=some (c6 (cI A),()):=by
 unfold Li;refine U.eq_iff.1 ?_;dsimp only;rw[wG,cC];refine U.ite (fun h=>?_) fun h=>?_
 ·have:=Q0.1 h;subst this;exact U.ar.2 rfl
 have Bb:0<A:=by
  rcases nl A with g|g
  ·subst g;exact absurd rfl h
  ·exact g
 have d2:(c6 A).length<=62500:=sG (by omega);obtain⟨fA,hx⟩:=wB A;have Ni:0<cI A:=by
  rcases nl (cI A) with g|g
  ·rw[g] at hx;omega
  ·exact g
 refine U.bs (Ts (lE A) (ry A) (by omega)) ?_;rw[nx,d7];have aA:ip IntKind.i64 (bN (aU A:Int)) 2=some (((aU A+1)/2:Nat):Int):=(by unfold ip;rw[cO (by omega),if_pos (by decide),Ft (by omega),wrap64 (by omega) (by omega)];simp);refine U.bs aA ?_;refine U.bs (Pc (a:=[1]) (bi.cons.2 ⟨by decide,bi.nil⟩) (by simp) (by omega)) ?_;have aX:(af [1]*2^((aU A+1)/2)).toNat=2^((aU A+1)/2):=(by rw[show af [1]=1 from by simp[af],Int.one_mul,<-lR,d7]);rw[aX];refine U.bJ (P:=fun r=>r=(c6 (cI A),())) ?_ (by rintro _ rfl;exact U.ar.2 rfl);refine U.loop (fun s=>∃x,s=(c6 x,())/\cI A<=x/\aU x<=3000000) (fun s=>(af s.1).toNat) ⟨_,rfl,?_,?_⟩ ?_
 ·refine OY fA ?_;have J:=es.1 (bU (aU A));have R:2^aU A<=2^((aU A+1)/2)*2^((aU A+1)/2):=by
   rw[<-jo];exact tW (by decide) (by omega)
  have ac:=l1 (Nat.le_add_right (2^((aU A+1)/2)) 1) (Nat.le_add_right (2^((aU A+1)/2)) 1);omega
 ·rw[es];exact Om _ 3000000 (by omega)
 ·rintro _ ⟨x,rfl,Cu,kp⟩;have ab:0<x:=(by omega);have Bu:(c6 x).length<=93750:=sG (by omega);dsimp only;refine U.bs (Yi (lE A) (lE x) (ry A) (ry x) (by omega) (by omega) (amG ab)) ?_;rw[nx,nx,<-Int.natCast_ediv,yf];dsimp only;have aj:(c6 (A/x)).length<=62500:=by
   refine sG ?_;have:A/x<=A:=zZ _ _;have J:=es.1 dY;have:aU (A/x)<=2000000:=es.2 (by omega);omega
  refine U.bs (UA (lE x) (lE (A/x)) (by omega) (by omega)) ?_;rw[nx,nx,<-Int.natCast_add,yf];dsimp only;have aa:aU (x+A/x)<=3000001:=(by refine Xw 3000000 kp ?_;have R:=lA (Nat.div_le_self A x);omega);have ws:(c6 (x+A/x)).length<=93751:=sG (by omega);refine U.bs (QJ (n:=1) (lE _) (ry _) (by omega) (by omega)) ?_;have bY:(af (c6 (x+A/x))/2^1).toNat=(x+A/x)/2:=(by rw[nx,show(2:Int)^1=((2:Nat):Int) from rfl,<-Int.natCast_ediv];rfl);rw[bY];dsimp only;have SP:aU ((x+A/x)/2)<=3000000:=(by have:=vG (x+A/x) 1;rw[Nat.pow_one] at this;omega);have aBD:(c6 ((x+A/x)/2)).length<=93750:=sG (by omega);refine U.bs (KJ (lE _) (lE x) (ry _) (ry x) (by omega) (by omega)) ?_;rw[nx,nx];dsimp only;rw[cC];refine U.ite (fun g=>?_) fun g=>?_
  ·refine U.ar.2 ?_;have fb:x<=(x+A/x)/2:=(by have:=x2.1 g;omega);have:=ach ab fb;rw[NC this (by
    have aY:=l1 (show cI A+1<=x+1 by omega) (show cI A+1<=x+1 by omega);omega)]
  ·refine U.ar.2 ⟨⟨(x+A/x)/2,rfl,acg ab fA,SP⟩,?_⟩;show(af (c6 ((x+A/x)/2))).toNat<(x:Int).toNat;rw[nx,d7,d7];have:=mt x2.2 g;omega
def J0 (b:tJ):Prop:=bi b.2.1/\ec b.2.1/\b.2.1.length<=100000
theorem hM {z:Int} (h:aU z.natAbs<=3000000):J0 (be z):=⟨o0 z,Mp z,sG (by omega)⟩
theorem r8 {l:List Int} (h:bi l) (ah:ec l) (ag:l.length<=1000000):iS (l,())=some (l,()):=by have J:=ec.eq h ah;rw[r9 h (by omega)];show some (c6 (af l).toNat,())=_;rw[<-J]
theorem vE {neg:Bool} {x:Int} (aV:0<=x) (ag:(c6 x.toNat).length<=100000000):nv (neg,c6 x.toNat,())=some (be (if neg then-x else x),()):=by rw[C6 (lE _) ag];unfold gM;simp only[AW aV]
theorem amF {x y:Nat} {k:Nat} (ab:(c6 x).length<=k) (aB:(c6 y).length<=k):(c6 (x+y)).length<=k+1:=by refine vZ ?_;have J:=YD x;have R:=YD y;have ac:=tp ab;have aL:=tp aB;have aY:=eU k;rw[ia];omega
theorem JE {x:Int} {l:List Int} {k:Nat} (ai:bi l) (h:l.length<=k) (ab:x<=af l):(c6 x.toNat).length<=k:=by refine vZ ?_;have J:=gU ai;have R:=tp h;have:=eU k;omega
theorem WN {a b:tJ} (aC:J0 a) (aa:J0 b):Ay (a,b,())=some (be (gM a+gM b),()):=by
 obtain⟨kY,a,_⟩:=a;obtain⟨f5,b,_⟩:=b;obtain⟨ch,c8,a3⟩:=aC;obtain⟨dg,dF,hE⟩:=aa;dsimp only at ch c8 a3 dg dF hE;have fy:=ej ch;have eu:=ej dg;have aN:=gU ch;have aM:=gU dg;have bb:=tp (m:=a.length) (n:=100000) a3;have bH:=tp (m:=b.length) (n:=100000) hE;have dv:=eU 100000;have aqn:∀x:Int,x<=af a+af b->(c6 x.toNat).length<=100000001:=fun x ab=>(by have:(c6 x.toNat).length<=100001:=(by refine vZ ?_;rw[show(100001:Nat)=100000+1 from rfl,ia];generalize a9 100000=p at*;omega);omega);have SF:∀x:Int,x<=af a+af b->(c6 x.toNat).length<=100000000:=fun x ab=>(by have:(c6 x.toNat).length<=100001:=(by refine vZ ?_;rw[show(100001:Nat)=100000+1 from rfl,ia];generalize a9 100000=p at*;omega);omega);unfold Ay;dsimp only;refine aI (r8 ch c8 (by omega)) (aI (r8 dg dF (by omega)) ?_);dsimp only;cases hs:(kY==f5) with
 |true=>
  have hs:kY=f5:=(by simpa using hs);subst hs;refine aI (UA ch dg (by omega) (by omega)) (aI (vE (by omega) (SF _ (by omega))) ?_);dsimp only;congr 3;unfold gM;cases kY<;>simp<;>omega
 |false=>
  have hs:kY=!f5:=(by cases kY<;>cases f5<;>simp at hs|-);refine aI (KJ ch dg c8 dF (by omega) (by omega)) ?_;dsimp only;rw[cC];split
  ·rename_i g;have fb:af b<=af a:=x2.1 g;have ai:b.length<=a.length:=by
    rcases ct a.length b.length with k|k
    ·have:=vc ch dg dF k;omega
    ·exact k
   refine aI (abQ ch dg (by omega) ai fb) (aI (vE (by omega) (SF _ (by omega))) ?_);dsimp only;congr 3;unfold gM;subst hs;cases f5<;>simp<;>omega
  ·rename_i g;have fb:af a<af b:=Int.not_le.1 (mt x2.2 g);have ai:a.length<=b.length:=by
    rcases ct b.length a.length with k|k
    ·have:=vc dg ch c8 k;omega
    ·exact k
   refine aI (abQ dg ch (by omega) ai (Int.le_of_lt fb)) (aI (vE (by omega) (SF _ (by omega))) ?_);dsimp only;congr 3;unfold gM;subst hs;cases f5<;>simp<;>omega
theorem WM {x y:Int} (ab:aU x.natAbs<=3000000) (aB:aU y.natAbs<=3000000):Ay (be x,be y,())=some (be (x+y),()):=by rw[WN (hM ab) (hM aB),sb,sb]
theorem ayY {x y:Int} (ab:aU x.natAbs<=3000000) (aB:aU y.natAbs<=3000000):Lh (be x,be y,())=some (be (x-y),()):=by unfold Lh;have h:J0 ((!(be y).1,(be y).2):tJ):=⟨o0 y,Mp y,(hM aB).2.2⟩;refine aI (WN (hM ab) h) ?_;rw[sb];have R:gM ((!(be y).1,(be y).2):tJ)=-y:=(by have:=Pg (be y).1 (be y).2.1;have ac:=sb y;exact this.trans (congrArg _ ac));rw[R];rfl
theorem ab2 {x y:Int} (ab:aU x.natAbs<=3000000) (aB:aU y.natAbs<=3000000):F8 (be x,be y,())=some (be (x*y),()):=by
 unfold F8;dsimp only;obtain⟨ch,c8,a3⟩:=hM ab;obtain⟨dg,dF,hE⟩:=hM aB;refine aI (r8 ch c8 (by omega)) (aI (r8 dg dF (by omega)) ?_);dsimp only;refine aI (azh ch dg (by omega) (by omega)) ?_;rw[ih,ih,<-Int.natCast_mul,yf];dsimp only;have ai:(c6 (x.natAbs*y.natAbs)).length<=100000000:=(by have:(c6 (x.natAbs*y.natAbs)).length<=200000:=(by refine sG ?_;have:=Aj ab aB;omega);omega);have aa:=vE (neg:=!((be x).1==(be y).1)) (x:=((x.natAbs*y.natAbs:Nat):Int)) (by omega) (by rw[yf];exact ai);rw[yf] at aa;refine aI aa ?_;dsimp only;congr 3;show(if(!(decide (x<0)==decide (y<0)))=true then _ else _)=_;rw[Int.natCast_mul];rcases Int.lt_or_le x 0 with bS|bS<;>rcases Int.lt_or_le y 0 with bt|bt
 ·rw[a8 bS,a8 bt];have aA:(x.natAbs:Int)=-x:=(by omega);have aX:(y.natAbs:Int)=-y:=(by omega);rw[aA,aX];simp<;>grind
 ·rw[a8 bS,a1 (show¬y<0 by omega)];have aA:(x.natAbs:Int)=-x:=(by omega);have aX:(y.natAbs:Int)=y:=(by omega);rw[aA,aX];simp<;>grind
 ·rw[a8 bt,a1 (show¬x<0 by omega)];have aA:(x.natAbs:Int)=x:=(by omega);have aX:(y.natAbs:Int)=-y:=(by omega);rw[aA,aX];simp<;>grind
 ·rw[a1 (show¬y<0 by omega),a1 (show¬x<0 by omega)];have aA:(x.natAbs:Int)=x:=(by omega);have aX:(y.natAbs:Int)=y:=(by omega);rw[aA,aX];simp
theorem XU {x y:Int} (ab:aU x.natAbs<=900000) (aB:aU y.natAbs<=900000):F7 (be x,be y,())=some (e2 x y,()):=by
 obtain⟨ch,c8,a3⟩:=hM (z:=x) (by omega);obtain⟨dg,dF,hE⟩:=hM (z:=y) (by omega);unfold F7;refine aI (xh (kw (by omega))) (aI (xh (kw (by omega))) ?_);dsimp only;rw[cC,cC];have hs:∀z:Int,z<0/\eT z=-1\/z=0/\eT z=0\/0<z/\eT z=1:=fun z=>by
  unfold eT;split
  ·omega
  ·split<;>omega
 split
 ·rename_i h;unfold e2;rw[if_pos (by have:=hs x;have:=hs y;omega)]
 split
 ·rename_i J R;unfold e2;rw[if_neg (by have:=hs x;have:=hs y;omega),if_pos (by have:=hs x;have:=hs y;omega)]
 ·rename_i J R;have aE:eT x=eT y:=(by omega);refine aI (r8 ch c8 (by omega)) (aI (r8 dg dF (by omega)) ?_);dsimp only;refine aI (KJ ch dg c8 dF (by omega) (by omega)) ?_;rw[ih,ih];dsimp only;have ab:=hs x;have aB:=hs y;have:eT x*e2 (x.natAbs:Int) (y.natAbs:Int)=e2 x y:=by
   rcases ab with⟨g,e⟩|⟨g,e⟩|⟨g,e⟩<;>rw[e]
   ·unfold e2;split
    ·rw[if_neg (by omega),if_pos (by omega)];rfl
    ·split
     ·rw[if_pos (by omega)];rfl
     ·rw[if_neg (by omega),if_neg (by omega)];rfl
   ·rw[Int.zero_mul];unfold e2;rw[if_neg (by omega),if_neg (by omega)]
   ·unfold e2;rw[Int.one_mul];split
    ·rw[if_pos (by omega)]
    ·split
     ·rw[if_neg (by omega),if_pos (by omega)]
     ·rw[if_neg (by omega),if_neg (by omega)]
  rw[this];have hc:-1<=e2 x y/\e2 x y<=1:=by
   unfold e2;split
   ·omega
   ·split<;>omega
  rw[b4 (by omega) (by omega)]
theorem aca (z:Int) (n:Nat):(z.natAbs:Int)*2^n=((z.natAbs*2^n:Nat):Int):=by simp
theorem xY {m n:Nat}:aU (m*2^n)<=aU m+n:=by
 rcases nl m with h|h
 ·subst h;simp[akC]
 ·rw[vF h];exact bU _
theorem ayy {z:Int} {n:Nat} (a2:aU z.natAbs<=1900000) (ag:n<=1048576):vN (be z,(n:Int),())=some (be (z*2^n),0,()):=by
 obtain⟨ch,c8,a3⟩:=hM (z:=z) (by omega);unfold vN;dsimp only;rw[a1 (show¬((n:Int)< -1048576) by omega),a1 (show¬((n:Int)>1048576) by omega)];refine aI rfl (aI (r8 ch c8 (by omega)) ?_);dsimp only;rw[a8 (show(n:Int)>=0 by omega)];refine aI (Pc ch (by omega) (by omega)) ?_;rw[ih,aca];have ai:(c6 (z.natAbs*2^n)).length<=100000:=sG (by have:=xY (m:=z.natAbs) (n:=n);omega);have aa:=vE (neg:=(be z).1) (x:=((z.natAbs*2^n:Nat):Int)) (by omega) (by rw[yf];omega);refine aI aa ?_;dsimp only;congr 3;show(if decide (z<0)=true then _ else _)=_;rw[<-aca];by_cases h:z<0
 ·rw[if_pos (a8 h),<-Int.neg_mul];congr 1;omega
 ·rw[if_neg (by simpa using h)];congr 1;omega
theorem ace {m p:Int} (aw:0<p) (aV:0<=m):-m/p=if m %p=0 then-(m/p) else-(m/p+1):=by
 have J:=jM m p;have R:=q9 m (show p≠0 by omega);have ac:=tL m aw;split
 ·rename_i h;refine(OC (A:=-m) (B:=p) (q:=-(m/p)) (r:=0) aw ?_ (xF _) aw).1;rw[Int.mul_neg];omega
 ·rename_i h;refine(OC (A:=-m) (B:=p) (q:=-(m/p+1)) (r:=p-m %p) aw ?_ (by omega) (by omega)).1;rw[Int.mul_neg,Int.mul_add,Int.mul_one];omega
theorem ayx {z:Int} {n:Nat} (a2:aU z.natAbs<=1900000) (ag:n<=1048576) (Sn:0<n):vN (be z,-(n:Int),())=some (be (z/2^n),0,()):=by
 obtain⟨ch,c8,a3⟩:=hM (z:=z) (by omega);have aw:=lj n;unfold vN;dsimp only;rw[a1 (show¬(-(n:Int)< -1048576) by omega),a1 (show¬(-(n:Int)>1048576) by omega)];refine aI rfl (aI (r8 ch c8 (by omega)) ?_);dsimp only;rw[a1 (show¬(-(n:Int)>=0) by omega)];have aA:aQ (0- -(n:Int))=(n:Int):=(by rw[b4 (by omega) (by omega)];omega);rw[aA];refine aI (QJ ch c8 (by omega) (by omega)) ?_;rw[ih];have fY:0<=(z.natAbs:Int)/2^n:=Int.ediv_nonneg (by omega) (by omega);have kU:(z.natAbs:Int)/2^n<=z.natAbs:=Int.ediv_le_self _ (by omega);have ai:∀x:Int,x<=z.natAbs->(c6 x.toNat).length<=100000:=fun x ab=>JE (l:=(be z).2.1) ch a3 (by rw[ih];exact ab);have qC:(c6 ((z.natAbs:Int)/2^n+1).toNat).length<=100001:=(by have J:=amF (x:=((z.natAbs:Int)/2^n).toNat) (y:=1) (k:=100000) (ai _ kU) (by decide);have e:((z.natAbs:Int)/2^n+1).toNat=((z.natAbs:Int)/2^n).toNat+1:=(by omega);rw[e];exact J);dsimp only;refine aI (y:=(c6 (if z<0/\(z.natAbs:Int) %2^n≠0 then(z.natAbs:Int)/2^n+1 else(z.natAbs:Int)/2^n).toNat,(false,([],())),())) ?_ ?_
 ·refine aI (y:=(decide (z<0/\(z.natAbs:Int) %2^n≠0),(false,([],())),())) ?_ ?_
  ·show(bif decide (z<0)==true then _ else _)=_;by_cases h:z<0
   ·simp[h]
   ·simp[h]
  ·dsimp only;by_cases h:z<0/\(z.natAbs:Int) %2^n≠0
   ·rw[a8 h,if_pos h];refine aI (UA (lE _) (bi.cons.2 ⟨by decide,bi.nil⟩) (by have:=ai _ kU;omega) (by simp)) ?_;rw[AW fY,show af [1]=1 from by simp[af]]
   ·rw[a1 h,if_neg h];rfl
 ·dsimp only;refine aI (vE ?_ ?_) ?_
  ·split<;>omega
  ·split
   ·omega
   ·have:=ai _ kU;omega
  ·dsimp only;congr 3;show(if decide (z<0)=true then _ else _)=_;by_cases h:z<0
   ·rw[if_pos (a8 h)];have R:=ace (m:=z.natAbs) aw (by omega);rw[show-(z.natAbs:Int)=z by omega] at R;rw[R];by_cases ac:(z.natAbs:Int) %2^n=0
    ·rw[if_pos ac,if_neg (by simp[ac])]
    ·rw[if_neg ac,if_pos ⟨h,ac⟩]
   ·rw[if_neg (by simpa using h),if_neg (by simp[h])];congr 1;omega
theorem alZ {x y:Int} (ab:aU x.natAbs<=1900000) (aB:aU y.natAbs<=1900000) (aaH:0<=x) (aV:y≠0):Ld (be x,be y,())=some (be (x/y),be (x %y),0,()):=by
 obtain⟨ch,c8,a3⟩:=hM (z:=x) (by omega);obtain⟨dg,dF,hE⟩:=hM (z:=y) (by omega);unfold Ld;dsimp only;refine aI (r8 dg dF (by omega)) ?_;dsimp only;have k6:(be y).2.1≠[]:=fun e=>aV (Dz.1 e);rw[wG,a1 k6];refine aI (r8 ch c8 (by omega)) ?_;dsimp only;refine aI (Yi ch dg c8 dF (by omega) (by omega) k6) ?_;rw[ih,ih];dsimp only;have ag:(be x).1=false:=a1 (by omega);have fY:0<=(x.natAbs:Int)/(y.natAbs:Int):=Int.ediv_nonneg (by omega) (by omega);have kU:(x.natAbs:Int)/(y.natAbs:Int)<=x.natAbs:=Int.ediv_le_self _ (by omega);have md:0<=(x.natAbs:Int) %(y.natAbs:Int):=Int.emod_nonneg _ (by omega);have kB:(x.natAbs:Int) %(y.natAbs:Int)<(y.natAbs:Int):=Int.emod_lt_of_pos _ (by omega);have ai:∀z:Int,z<=x.natAbs->(c6 z.toNat).length<=100000:=fun z a2=>JE (l:=(be x).2.1) ch a3 (by rw[ih];exact a2);have qC:∀z:Int,z<=y.natAbs->(c6 z.toNat).length<=100000:=fun z a2=>JE (l:=(be y).2.1) dg hE (by rw[ih];exact a2);rw[ag];refine aI rfl ?_;dsimp only;refine aI (vE fY (by have:=ai _ kU;omega)) (aI (vE md (by have:=qC _ (Int.le_of_lt kB);omega)) ?_);dsimp only;have aA:(x.natAbs:Int)=x:=(by omega);rw[aA];have bY:x %(y.natAbs:Int)=x %y:=by
  rcases iO y 0 with g|g
  ·rw[show(y.natAbs:Int)=-y by omega,Int.emod_neg]
  ·rw[show(y.natAbs:Int)=y by omega]
 rw[bY];congr 3;show(if(!(false==decide (y<0)))=true then _ else _)=_;rcases iO y 0 with g|g
 ·rw[a8 g,show(y.natAbs:Int)=-y by omega,Int.ediv_neg];simp
 ·rw[a1 (show¬y<0 by omega),show(y.natAbs:Int)=y by omega];simp
theorem ayM {x:Int} (ab:aU x.natAbs<=900000) (aV:0<=x):Lg (be x,())=some (be (cI x.toNat),0,()):=by
 obtain⟨ch,c8,a3⟩:=hM (z:=x) (by omega);unfold Lg;refine aI (xh (kw (by omega))) ?_;dsimp only;rw[a1 (by unfold eT;split;omega;split<;>omega)];refine aI (r8 ch c8 (by omega)) ?_;have e:(be x).2.1=c6 x.toNat:=(by show c6 x.natAbs=_;congr 1;omega);dsimp only;rw[e];refine aI (axQ (by rw[show x.toNat=x.natAbs by omega];omega)) ?_;dsimp only;have hs:cI x.toNat<=x.toNat:=by
  obtain⟨fA,hx⟩:=wB x.toNat;rcases nl (cI x.toNat) with g|g
  ·omega
  ·exact d8 (Nat.le_mul_of_pos_left _ g) fA
 have aa:=vE (neg:=false) (x:=(cI x.toNat:Int)) (by omega) (by
  rw[yf];have:=sG (n:=cI x.toNat) (k:=100000) (by
   rw[es];have:=es.1 ab;have R:=adl 900000 (32*100000) (by decide);omega)
  omega)
 rw[yf] at aa;refine aI aa ?_;rfl
theorem Rr {n:Int} (J:-9223372036854775808<=n) (R:n<=9223372036854775807):Dj (n,())=some (be n,()):=by
 unfold Dj;dsimp only;obtain⟨u,aR,fB,m5⟩:∃u:Int,u=n.natAbs/\0<=u/\u<=9223372036854775808:=⟨_,rfl,by omega,by omega⟩;refine aI (y:=(u,(false,([],())),())) ?_ ?_
 ·rw[cC];split
  ·rename_i h;rw[n2 n,n2];congr 2;omega
  ·rename_i h;rw[n2];congr 2;omega
 dsimp only;rw[qe,Option.bind_some,wH fB (by omega),m7 (x:=u/4294967296) (by omega) (by omega)];refine aI (C6 (bi.cons.2 ⟨⟨by omega,by omega⟩,bi.cons.2 ⟨⟨by omega,by omega⟩,bi.nil⟩⟩) (by simp)) ?_;dsimp only;congr 2;congr 1;unfold gM;simp only[af];by_cases h:n<0
 ·simp[h];omega
 ·simp[h];omega
theorem aqV {l:List Int} (ai:bi l) (ag:l.length<=2) {cd:b8->Prop} (aq:cd (af l,())):U (loop (σ:=qp) (ρ:=b8) (fun(zy,eZ,_)=>
 bif decide (eZ<aS l) then
 (bf l eZ).bind fun eH=>
 (iq IntKind.u64 (bc eH) (aQ (32*eZ))).bind fun ep=>
 some (.inl (fF IntKind.u64 zy ep,bN eZ,())) else
 some (.inr (zy,()))) (0,0,())) cd:=by
 refine U.steps l.length (fun i s=>s=(af (l.take i),(i:Int),())) rfl ?_ ?_
 ·rintro i _ hi rfl;have ab:=ai.get hi;simp only[a8 (show(i:Int)<aS l by simp only[bL];omega),cond_true,dC hi,bq];have J:=ej (ai.take i);have R:=gU (ai.take i);rw[eW,hU (by omega),vi] at R;have aA:aQ (32*(i:Int))=((32*i:Nat):Int):=(by rw[b4 (by omega) (by omega)];simp);have aa:(2:Int)^(32*i)<=4294967296:=by
   rcases(show i=0\/i=1 by omega) with rfl|rfl<;>decide
  have aw:=lj (32*i);have ak:l[i]*2^(32*i)<4294967296*4294967296:=(by have:=kI aa ab.1;omega);have jz:0<=l[i]*2^(32*i):=qg ab.1 (eM aw);rw[aA,dr (x:=l[i]) (by omega) (by omega),q1 (by omega) (by omega),bq,d7,xE jz (by omega),p4 (32*i) J R jz (by omega) (by omega) (Int.mul_emod_left _ _),cO (by omega)];refine U.ar.2 ?_;rw[h6 hi,vi,jl (2^(32*i))]
 ·rintro _ rfl;simp only[a1 (show¬((l.length:Int)<aS l) by simp only[bL];omega),cond_false];rw[dW (bU _)];exact U.ar.2 aq
theorem aqW {z:Int} (aV:0<=z) (J:z<9223372036854775808):Le (be z,())=some (z,true,()):=by have aa:aU z.natAbs<=64:=es.2 (by omega);obtain⟨ch,c8,a3⟩:=hM (z:=z) (by omega);have ai:(be z).2.1.length<=2:=sG (by omega);unfold Le;dsimp only;refine U.eq_iff.1 ?_;refine U.bs (r8 ch c8 (by omega)) ?_;dsimp only;rw[a1 (show¬(aS (be z).2.1>2) by simp only[bL];omega),cond_false];refine U.bJ (P:=fun r=>r=(z,())) (aqV ch ai (by rw[ih];congr 1;omega)) ?_;rintro _ rfl;have ag:(be z).1=false:=a1 (by omega);dsimp only;rw[ag];refine U.bs (y:=.inr (z,true,())) ?_ (U.ar.2 rfl);refine aI rfl ?_;dsimp only[cond_false];rw[a8 (show z<9223372036854775808 from J)];refine aI rfl ?_;dsimp only[cond_true];rw[b4 (by omega) (by omega)]
end Go.mz
end
